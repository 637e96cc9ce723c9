/- Trees, at this program. -/
import Derived.Test.YtjjnmdpppcmmfaaGreatDoorBtD

set_option linter.unusedVariables false
set_option linter.unusedSimpArgs false
set_option maxRecDepth 100000
namespace Go.Sx
attribute [local go_sem ↓] bind_mk intsB_mk strsB_mk svB_mk fnVC ob_some vc_skip vc_exit vc_ret vc_seq vc_block kSeq_normal kSeq_exit kSeq_ret kBlock_normal kBlock_exit kBlock_ret vc_reg vc_regD vc_cond condK_true condK_false vc_loop kLoop_exit kLoop_ret kRoll_normal kRoll_exit kRoll_ret vcOps_nil vcOps_cons gd_bool gd_undef put_some put_none vcT_fin vcT_pure vcT_act vcT_acts vcT_stop stab_none stab_some stabM_nil stabM_cons stabO_ld stabO_ldn stabO_slP stabO_b2s fldOf_ai fldOf_agg fldOf_ait fldOf_aggt intsOf_nil intsOf_cons strsOf_nil strsOf_cons c_omap ob_if lk_nil lk_cons ev_t ev_k z_mov z_pick z_bin z_binA z_binB z_binP z_un z_r2s z_conv z_s2b z_b2s z_mkM z_luM z_upM z_lenM lenMk_mp lenMk_nil plsOf_v z_delM asM_so plV_v plV_agg mpOf_mp mpOf_nil mpUp_mp asM_mp luV_ok luV_v z_allocT aggOf_mk z_boxT z_alloc z_bld z_bldI z_rowI z_rowS z_ld z_ldn z_st z_stn asN_ptr asN_fn z_nilck z_fld z_fadr z_idxA z_idxP z_idxS z_idxV z_slS z_slL z_slP z_mk z_lenS z_lenL z_app appC_ints appC_pl appC_sv appC_strs isS_strs loose_ints loose_pl loose_sv z_slM z_callv callvK_fn callvK_f callvK_yl vc_rangeF rfEnd_eq rfGo_none rfGo_ret rfGo_exit yGo_mk yEnd_n yEnd_r yEnd_e yRdy_mk yMid_n putPs_nil putPs_cons leaf_v leaf_ptr leaf_sl leaf_yl leaf_mp z_appS z_appST z_appZ z_cpyS z_mkfn reps_int reps_str z_rowV z_slnil nilK_zero z_cpy z_call asT_tup z_extT z_box boxOf_ai boxOf_agg boxOf_int boxOf_str boxOf_bool boxOf_ptr boxOf_sl sbin_int sbin_str sbinA_mk ae_nil ae_int ae_str sbinB_mk sbinP_nn sbinP_pn sbinP_np i_add i_sub i_mul i_quo i_rem i_and i_or i_xor i_andNot i_shl i_shr i_eql i_neq i_lss i_leq i_gtr i_geq st_add st_eql st_neq st_lss st_leq st_gtr st_geq bo_eql bo_neq pt_eql pt_neq un_neg un_xor un_not asI_mk asB_mk asS_mk asP_mk asSl_mk asBy_mk bnd_none bnd_some get_mk hput_mk hdel_mk kill_eq wrOf_eq rowOf_eq rsvs_0 rsvs_1 rsvs_2 rsvs_3 rsv_t rsv_c1 rsv_cn nt_v nt_ptr nt_sl nt_agg nt_ai get_ints get_strs get_pl get_sv getN_ints getN_sv set_ints set_strs set_sv setN_ints setN_sv part_ints part_strs part_sv cat_ints cat_strs cat_sv over_ints over_strs over_sv ones_ints ones_strs evs_nil evs_cons condK_eqt condK_eqf det_callP V_ns V_nn V_gs V_gn obC_mk fresh_ev freshT_ev freshR_ev setN_plagg setN_intsv setN_svai setN_svagg over_intsv set_pl setN_pl setN_plai getN_pl getN_strs part_pl cat_pl over_pl over_plints z_mm
attribute [local go_sem] initTm ne_eq not_true_eq_false not_false_eq_true true_and and_true List.length_cons List.length_nil Int.toNat_natCast Nat.add_zero Nat.zero_add Nat.mul_one List.getElem?_cons_zero List.drop_zero List.take_length List.take_succ_cons List.take_zero List.take_nil List.drop_succ_cons Option.map_some Nat.le_refl implies_true List.getElem?_cons_succ decide_true decide_false Bool.not_true Bool.not_false beq_self_eq_true Nat.succ_ne_self Nat.one_ne_zero Nat.zero_ne_one vk_mk hk_mk nk_mk tok_eq plsOf_map intsOf_map bodyOf_pl bodyOf_ints bodyOf_strs bodyOf_sv part_aggv part_agg part_ai part_int part_str part_bool part_sl part_ptr part_nil numsOf_map u_int u_str u_bool u_pnil u_sl u_ptr u_oci u_ocs evq_nil evq_cons fillS_nil fillS_cons u_ocb ones_pl cells_sv cells_ints cells_strs cells_pl smms_nil smms_cons smm_min smm_max plsOf_nil List.nil_append List.all_cons List.all_nil Bool.and_self Bool.true_and Bool.and_true zws_len zw_len zi_len List.set_cons_zero List.set_cons_succ List.flatMap_cons List.flatMap_nil List.append_nil
attribute [local go_sem_proc] Nat.reduceEqDiff Nat.reduceAdd Nat.reduceMul Nat.reduceLT Nat.reduceLeDiff Nat.reduceSub Int.reduceToNat Int.reduceLE Int.reduceLT reduceCtorEq Int.reduceEq Int.reduceGT Int.reduceGE Int.reduceNeg
attribute [local go_sem_proc ↓] reduceIte
section
open Go.Proofs
variable {H : Hp} {n : Nat} {x : Nat → Option SO}
theorem rdKS {f : Nat} {m : MFn} (t : trFn Tryz.prog f = some m) {k : Nat} {s : ByteArray} {e : Int} {i : Nat} (hm : ∀ x, fnVC CT m [.ptr 1 0] ⟨[(1, some (rdO s e))], x⟩ 2 fun v H' n' => Sub 2 ⟨[(0, .v (.int .i64 (num (rawT s e k) : Nat)))], ⟨[(1, some (rdO (rawS s e k) (rawE s e k)))], x⟩, 2⟩ ⟨[(0, v)], H', n'⟩)
    (hg : H.get i = some (rdO s e)) (hi : 0 < i ∧ i < 1000) :
    SpecAt Tryz.prog f [.ptr i 0] H n (.v (.int .i64 (num (rawT s e k) : Nat))) ⟨(i, some (rdO (rawS s e k) (rawE s e k))) :: H.l, H.x⟩ n := by
  have := lift (n := n) (okT.spec t (hm H.x)) [(1, i)] rfl rfl rfl (by omega) rfl rfl
    ⟨sub_wr rfl hi.1 hi.2 hg rfl, trivial⟩ (by simp [apartB, apart1, rn, lk]) (by simp [wrNZ, rn, lk]; omega) (by omega)
  exact this
theorem numOK7 {s : ByteArray} {e : Int} {k : Nat} (h : k ≤ 7) : numOK (rawT s e k) := .inl (Nat.le_trans rawT_size h)
theorem fourS {s : ByteArray} {e : Int} {i : Nat} (hg : H.get i = some (rdO s e)) (hi : 0 < i ∧ i < 1000) :
    SpecAt Tryz.prog nRFour [.ptr i 0] H n (.v (.int .i64 (num (rawT s e 4) : Nat))) ⟨(i, some (rdO (rawS s e 4) (rawE s e 4))) :: H.l, H.x⟩ n := rdKS tRFour (by
  intro x
  unfold mRFour
  simp -implicitDefEqProofs only [↓fnVC, initTm]
  simp -implicitDefEqProofs only [go_sem]
  refine at_call tRNumber (numSp (i := 1) (s := s) (e := e) (k := 4) (by rfl) (by decide) (by decide) (numOK7 (by decide))) ?_
  simp -implicitDefEqProofs only [go_sem]
  refine sub_mk [] rfl rfl rfl ?_
  simp only [tmSub, hpSub, objSub, eqTm, eqHp, rn, lk, SV.ren, SV.renC, SV.renB, SV.renA, ren_ints, ren_strs, ren_pl, ren_svs, SV.v.injEq, Value.int.injEq, Body.ints.injEq, SV.ptr.injEq, SV.sl.injEq, Value.string.injEq, Value.bool.injEq, List.map_cons, List.map_nil, forall_const, Nat.reduceLT, Nat.lt_add_one, imp_self, true_and, and_true, and_self, ob_some, get_mk, lk_cons, ↓reduceIte, Nat.reduceEqDiff, ne_eq, not_true_eq_false, not_false_eq_true, Nat.one_ne_zero, Nat.zero_ne_one, Nat.succ_ne_self, Nat.reduceAdd, Bool.false_eq_true, false_implies, implies_true, reduceCtorEq, rdO]) hg hi
theorem twoS {s : ByteArray} {e : Int} {i : Nat} (hg : H.get i = some (rdO s e)) (hi : 0 < i ∧ i < 1000) :
    SpecAt Tryz.prog nRTwo [.ptr i 0] H n (.v (.int .i64 (num (rawT s e 2) : Nat))) ⟨(i, some (rdO (rawS s e 2) (rawE s e 2))) :: H.l, H.x⟩ n := rdKS tRTwo (by
  intro x
  unfold mRTwo
  simp -implicitDefEqProofs only [↓fnVC, initTm]
  simp -implicitDefEqProofs only [go_sem]
  refine at_call tRNumber (numSp (i := 1) (s := s) (e := e) (k := 2) (by rfl) (by decide) (by decide) (numOK7 (by decide))) ?_
  simp -implicitDefEqProofs only [go_sem]
  refine sub_mk [] rfl rfl rfl ?_
  simp only [tmSub, hpSub, objSub, eqTm, eqHp, rn, lk, SV.ren, SV.renC, SV.renB, SV.renA, ren_ints, ren_strs, ren_pl, ren_svs, SV.v.injEq, Value.int.injEq, Body.ints.injEq, SV.ptr.injEq, SV.sl.injEq, Value.string.injEq, Value.bool.injEq, List.map_cons, List.map_nil, forall_const, Nat.reduceLT, Nat.lt_add_one, imp_self, true_and, and_true, and_self, ob_some, get_mk, lk_cons, ↓reduceIte, Nat.reduceEqDiff, ne_eq, not_true_eq_false, not_false_eq_true, Nat.one_ne_zero, Nat.zero_ne_one, Nat.succ_ne_self, Nat.reduceAdd, Bool.false_eq_true, false_implies, implies_true, reduceCtorEq, rdO]) hg hi
theorem num_lt' {t : ByteArray} (h : t.size ≤ 7) : num t < 72057594037927936 := by
  have := nvl_bound (l := nbs t) nbs_lt (j := (nbs t).length) (Nat.le_refl _)
  rw [List.take_length, nbs_len] at this
  refine Nat.lt_of_lt_of_le this (Nat.le_trans (Nat.pow_le_pow_right (by decide) h) (by decide))
theorem bts_app {a b : ByteArray} : bts (a ++ b) = bts a ++ bts b := by simp [bts]
theorem bts_bytes {a : ByteArray} : ∀ y ∈ bts a, 0 ≤ y ∧ y ≤ 255 := by
  intro y hy
  unfold bts at hy
  obtain ⟨b, _, rfl⟩ := List.mem_map.1 hy
  have := b.toNat_lt
  exact ⟨by omega, by omega⟩
theorem ba_nil {a : ByteArray} : (⟨#[]⟩ : ByteArray) ++ a = a := by apply ByteArray.ext; simp
theorem ba_zero {a : ByteArray} (h : a.size = 0) : a = ⟨#[]⟩ := by
  apply ByteArray.ext
  exact Array.eq_empty_of_size_eq_zero h
theorem loopU_fam {C : Tab} {base : Nat} {α : Type} (p : α → Prop) (I : α → St) (μ : α → Nat) (a0 : α) {b : MC} {s : St} {K : Ex → St → Prop} (h0 : p a0) (hs : Sub base (I a0) s)
    (hr : ∀ a, p a → vc C base b (I a) (kLoop base p I μ a K)) : LoopU base (vc C base b) 0 s K := by
  refine ⟨{a // p a}, fun a => I a.1, fun a => μ a.1, ⟨⟨a0, h0⟩, hs⟩, fun a => ?_⟩
  have := hr a.1 a.2
  refine vc_mono (fun e s' h => ?_) this
  cases e with
  | normal =>
    obtain ⟨a', h1, h2, h3⟩ := h
    exact ⟨⟨a', h1⟩, h3, h2⟩
  | exit j => exact h
  | ret => exact h
variable {H : Hp} {n : Nat} {x : Nat → Option SO}
theorem seq_emp {s : ByteArray} (h : s.size = 0) : seq s ⟨#[]⟩ = true := by rw [ba_zero h]; exact seq_self _
theorem seq_nemp {s : ByteArray} (h : ¬s.size = 0) : seq s ⟨#[]⟩ = false := seq_ne fun e => h (by rw [e]; rfl)
theorem ex_size {s : ByteArray} {a b : Nat} : (s.extract a b).size = min b s.size - a := ByteArray.size_extract
variable {H : Hp} {n : Nat} {x : Nat → Option SO}
theorem wKS {f : Nat} {m : MFn} {bs ys : List Int} {i r : Nat} (t : trFn Tryz.prog f = some m) {a : SV} (ha : ∀ π, a.ren π = a) (hlt : ltT 3 a = true)
    (hm : ∀ x, fnVC CT m [.ptr 1 0, a] ⟨[(1, some (wrO 2 bs.length false)), (2, some ⟨true, .ints .u8 bs⟩)], x⟩ 3 fun v H' n' => Sub 3 ⟨[(0, .tup [])], ⟨[(1, some (wrO 3 (bs ++ ys).length false)), (2, none), (3, some ⟨true, .ints .u8 (bs ++ ys)⟩)], x⟩, 4⟩ ⟨[(0, v)], H', n'⟩)
    (hg : H.get i = some (wrO r bs.length false)) (hr : H.get r = some ⟨true, .ints .u8 bs⟩) (hi : 0 < i ∧ i < 1000) (hr1 : 0 < r ∧ r < 1000) (hne : i ≠ r) (hn : n + 1 ≤ 1000) :
    SpecAt Tryz.prog f [.ptr i 0, a] H n (.tup []) ⟨(i, some (wrO n (bs ++ ys).length false)) :: (r, none) :: (n, some ⟨true, .ints .u8 (bs ++ ys)⟩) :: H.l, H.x⟩ (n + 1) := by
  have := lift (n := n) (okT.spec t (hm H.x)) [(1, i), (2, r)] rfl rfl (by simp [ltT, ltB, ltC, ltA, idOK] at hlt ⊢; exact hlt) (by omega) rfl rfl
    ⟨sub_wr rfl hi.1 hi.2 hg rfl, sub_wr rfl hr1.1 hr1.2 hr rfl, trivial⟩ (by simp [apartB, apart1, rn, lk, hne, Ne.symm hne]) (by simp [wrNZ, rn, lk]; omega) (by omega)
  rw [List.map_cons, List.map_cons, List.map_nil, ha] at this
  exact this
theorem wFourS {i r y : Nat} {bs : List Int} (hy : y < 4294967296) (hb : bs.length ≤ 1099511627776) (hg : H.get i = some (wrO r bs.length false)) (hr : H.get r = some ⟨true, .ints .u8 bs⟩) (hi : 0 < i ∧ i < 1000) (hr1 : 0 < r ∧ r < 1000) (hne : i ≠ r) (hn : n + 1 ≤ 1000) :
    SpecAt Tryz.prog nWFour [.ptr i 0, .v (.int .i64 y)] H n (.tup []) ⟨(i, some (wrO n (bs ++ be y 4).length false)) :: (r, none) :: (n, some ⟨true, .ints .u8 (bs ++ be y 4)⟩) :: H.l, H.x⟩ (n + 1) := wKS tWFour (fun _ => rfl) rfl (by
  intro x
  unfold mWFour
  simp -implicitDefEqProofs only [↓fnVC, initTm]
  simp -implicitDefEqProofs only [go_sem]
  refine at_call tWNumber (wNumS (i := 1) (r := 2) (k := 4) (y := y) (bs := bs) (bad := false) (by rfl) (by rfl) (by decide) (by decide) (by decide) (by decide) (by decide) (by omega) (fun _ => hy) hb) ?_
  simp -implicitDefEqProofs only [go_sem]
  refine sub_mk [] rfl rfl rfl ?_
  simp only [tmSub, hpSub, objSub, eqTm, eqHp, rn, lk, SV.ren, SV.renC, SV.renB, SV.renA, ren_ints, ren_strs, ren_pl, ren_svs, SV.v.injEq, Value.int.injEq, Body.ints.injEq, SV.ptr.injEq, SV.sl.injEq, Value.string.injEq, Value.bool.injEq, List.map_cons, List.map_nil, forall_const, Nat.reduceLT, Nat.lt_add_one, imp_self, true_and, and_true, and_self, ob_some, get_mk, lk_cons, ↓reduceIte, Nat.reduceEqDiff, ne_eq, not_true_eq_false, not_false_eq_true, Nat.one_ne_zero, Nat.zero_ne_one, Nat.succ_ne_self, Nat.reduceAdd, Bool.false_eq_true, false_implies, implies_true, reduceCtorEq, wrO]) hg hr hi hr1 hne hn
theorem wTextS {i r : Nat} {s : ByteArray} {bs : List Int} (hs : s.size < 65536) (hb : bs.length ≤ 1000000000) (hg : H.get i = some (wrO r bs.length false)) (hr : H.get r = some ⟨true, .ints .u8 bs⟩) (hi : 0 < i ∧ i < 1000) (hr1 : 0 < r ∧ r < 1000) (hne : i ≠ r) (hn : n + 1 ≤ 1000) :
    SpecAt Tryz.prog nWText [.ptr i 0, .v (.string s)] H n (.tup []) ⟨(i, some (wrO n (bs ++ (be s.size 2 ++ bts s)).length false)) :: (r, none) :: (n, some ⟨true, .ints .u8 (bs ++ (be s.size 2 ++ bts s))⟩) :: H.l, H.x⟩ (n + 1) := wKS tWText (fun _ => rfl) rfl (by
  intro x
  unfold mWText
  simp -implicitDefEqProofs only [↓fnVC, initTm]
  unfold wrO
  simp -implicitDefEqProofs only [go_sem]
  refine at_call tWNumber (wNumS (i := 1) (r := 2) (k := 2) (y := s.size) (bs := bs) (bad := false) (by rfl) (by rfl) (by decide) (by decide) (by decide) (by decide) (by decide) (by omega) (fun _ => hs) (by omega)) ?_
  unfold wrO
  simp -implicitDefEqProofs only [go_sem]
  refine ⟨by rw [List.length_append, be_len]; omega, ?_⟩
  refine sub_mk [(3, 4)] rfl rfl rfl ?_
  simp only [tmSub, hpSub, objSub, eqTm, eqHp, rn, lk, SV.ren, SV.renC, SV.renB, SV.renA, ren_ints, ren_strs, ren_pl, ren_svs, SV.v.injEq, Value.int.injEq, Body.ints.injEq, SV.ptr.injEq, SV.sl.injEq, Value.string.injEq, Value.bool.injEq, List.map_cons, List.map_nil, forall_const, Nat.reduceLT, Nat.lt_add_one, imp_self, true_and, and_true, and_self, ob_some, get_mk, lk_cons, ↓reduceIte, Nat.reduceEqDiff, ne_eq, not_true_eq_false, not_false_eq_true, Nat.one_ne_zero, Nat.zero_ne_one, Nat.succ_ne_self, Nat.reduceAdd, Bool.false_eq_true, false_implies, implies_true, reduceCtorEq]
  rw [← List.append_assoc, List.length_append (bs := bts s), bts_len]
  repeat' (first | rfl | apply And.intro)) hg hr hi hr1 hne hn
theorem ex_l {a b : ByteArray} {i j : Nat} (h : j ≤ a.size) : (a ++ b).extract i j = a.extract i j := by
  apply bts_inj
  rw [bts_ext, bts_ext, bts_app]
  have hl := bts_len a
  by_cases c : i ≤ j
  · rw [List.drop_append_of_le_length (by omega), List.take_append_of_le_length (by rw [List.length_drop]; omega)]
  · rw [show j - i = 0 by omega]; rfl
theorem ex_r {a b : ByteArray} {k : Nat} (h : a.size = k) : (a ++ b).extract k (a ++ b).size = b := by
  apply bts_inj
  rw [bts_ext, bts_app]
  have hl := bts_len a
  rw [List.drop_left' (by omega), List.take_of_length_le (by rw [bts_len, ByteArray.size_append]; omega)]
theorem ex_a {a b : ByteArray} {k : Nat} (h : a.size = k) : (a ++ b).extract 0 k = a := by
  rw [ex_l (by omega), ← h, ext_all]
theorem app_nil {a : ByteArray} : a ++ (⟨#[]⟩ : ByteArray) = a := by apply ByteArray.ext; simp
end
section
/- Small things, at this program. -/
set_option linter.unusedVariables false
set_option linter.unusedSimpArgs false
set_option maxRecDepth 100000
open Go.Proofs
variable {H : Hp} {n : Nat} {x : Nat → Option SO}
variable {H : Hp} {n : Nat} {x : Nat → Option SO}
variable {H : Hp} {n : Nat} {x : Nat → Option SO}
variable {H : Hp} {n : Nat} {x : Nat → Option SO}
variable {H : Hp} {n : Nat} {x : Nat → Option SO}
theorem wHashW {bs : List Int} {bad : Bool} {h : ByteArray} (hb : bs.length ≤ 1099511627776) (hh : h.size ≤ 536870000) :
    fnVC CT mWHash [.ptr 1 0, .v (.string h)] ⟨[(1, some (wrO 2 bs.length bad)), (2, some ⟨true, .ints .u8 bs⟩)], x⟩ 3 fun v H' n' => Sub 3 ⟨[(0, .tup [])], ⟨[(1, some (wrO 3 (bs ++ bts h).length (bad || decide (h.size ≠ 32)))), (2, none), (3, some ⟨true, .ints .u8 (bs ++ bts h)⟩)], x⟩, 4⟩ ⟨[(0, v)], H', n'⟩ := by
  unfold mWHash wrO
  simp -implicitDefEqProofs only [↓fnVC, initTm]
  cases bad with
  | true =>
    simp -implicitDefEqProofs only [go_sem]
    refine ⟨by omega, sub_mk [] rfl rfl rfl ?_⟩
    simp only [tmSub, hpSub, objSub, eqTm, eqHp, rn, lk, SV.ren, SV.renC, SV.renB, SV.renA, ren_ints, ren_strs, ren_pl, ren_svs, SV.v.injEq, Value.int.injEq, Body.ints.injEq, SV.ptr.injEq, SV.sl.injEq, Value.string.injEq, Value.bool.injEq, List.map_cons, List.map_nil, forall_const, Nat.reduceLT, Nat.lt_add_one, imp_self, true_and, and_true, and_self, ob_some, get_mk, lk_cons, ↓reduceIte, Nat.reduceEqDiff, ne_eq, not_true_eq_false, not_false_eq_true, Nat.one_ne_zero, Nat.zero_ne_one, Nat.succ_ne_self, Nat.reduceAdd, Bool.false_eq_true, false_implies, implies_true, reduceCtorEq, List.length_append, bts_len, Bool.true_or]
  | false =>
    simp -implicitDefEqProofs only [go_sem]
    refine ⟨by omega, sub_mk [] rfl rfl rfl ?_⟩
    have e : (false || decide (h.size ≠ 32)) = !decide ((h.size : Int) = 32) := by
      by_cases hh : h.size = 32
      · rw [hh]; rfl
      · rw [decide_eq_true hh, decide_eq_false (by omega)]; rfl
    rw [e]
    simp only [tmSub, hpSub, objSub, eqTm, eqHp, rn, lk, SV.ren, SV.renC, SV.renB, SV.renA, ren_ints, ren_strs, ren_pl, ren_svs, SV.v.injEq, Value.int.injEq, Body.ints.injEq, SV.ptr.injEq, SV.sl.injEq, Value.string.injEq, Value.bool.injEq, List.map_cons, List.map_nil, forall_const, Nat.reduceLT, Nat.lt_add_one, imp_self, true_and, and_true, and_self, ob_some, get_mk, lk_cons, ↓reduceIte, Nat.reduceEqDiff, ne_eq, not_true_eq_false, not_false_eq_true, Nat.one_ne_zero, Nat.zero_ne_one, Nat.succ_ne_self, Nat.reduceAdd, Bool.false_eq_true, false_implies, implies_true, reduceCtorEq, List.length_append, bts_len]
variable {H : Hp} {n : Nat} {x : Nat → Option SO}
theorem wHashS {i r : Nat} {bs : List Int} {bad : Bool} {h : ByteArray} (hg : H.get i = some (wrO r bs.length bad)) (hr : H.get r = some ⟨true, .ints .u8 bs⟩) (hi : 0 < i ∧ i < 1000) (hr1 : 0 < r ∧ r < 1000) (hne : i ≠ r) (hn : n + 1 ≤ 1000)
    (hb : bs.length ≤ 1099511627776) (hh : h.size ≤ 536870000) :
    SpecAt Tryz.prog nWHash [.ptr i 0, .v (.string h)] H n (.tup []) ⟨(i, some (wrO n (bs ++ bts h).length (bad || decide (h.size ≠ 32)))) :: (r, none) :: (n, some ⟨true, .ints .u8 (bs ++ bts h)⟩) :: H.l, H.x⟩ (n + 1) := by
  have := lift (n := n) (okT.spec tWHash (wHashW (x := H.x) hb hh)) [(1, i), (2, r)] rfl rfl rfl (by omega) rfl rfl
    ⟨sub_wr rfl hi.1 hi.2 hg rfl, sub_wr rfl hr1.1 hr1.2 hr rfl, trivial⟩ (by simp [apartB, apart1, rn, lk, hne, Ne.symm hne]) (by simp [wrNZ, rn, lk]; omega) (by omega)
  exact this
variable {H : Hp} {n : Nat} {x : Nat → Option SO}
variable {H : Hp} {n : Nat} {x : Nat → Option SO}
theorem hashSp {s : ByteArray} {e : Int} {i : Nat} (hg : H.get i = some (rdO s e)) (hi : 0 < i ∧ i < 1000) :
    SpecAt Tryz.prog nRHash [.ptr i 0] H n (.v (.string (rawT s e 32))) ⟨(i, some (rdO (rawS s e 32) (rawE s e 32))) :: H.l, H.x⟩ n := by
  have := lift (n := n) (okT.spec tRHash (args := [.ptr 1 0]) (H := ⟨[(1, some (rdO s e))], H.x⟩) (n := 2) (v := .v (.string (rawT s e 32))) (H' := ⟨[(1, some (rdO (rawS s e 32) (rawE s e 32)))], H.x⟩) (n' := 2) (by
    unfold mRHash
    simp -implicitDefEqProofs only [↓fnVC, initTm]
    simp -implicitDefEqProofs only [go_sem]
    refine at_call tRRaw (rawSp (i := 1) (k := 32) (by rfl) (by decide) (by decide)) ?_
    simp -implicitDefEqProofs only [go_sem]
    refine sub_mk [] rfl rfl rfl ?_
    simp only [tmSub, hpSub, objSub, eqTm, eqHp, rn, lk, SV.ren, SV.renC, SV.renB, SV.renA, ren_ints, ren_strs, ren_pl, ren_svs, SV.v.injEq, Value.int.injEq, Body.ints.injEq, SV.ptr.injEq, SV.sl.injEq, Value.string.injEq, Value.bool.injEq, List.map_cons, List.map_nil, forall_const, Nat.reduceLT, Nat.lt_add_one, imp_self, true_and, and_true, and_self, ob_some, get_mk, lk_cons, ↓reduceIte, Nat.reduceEqDiff, ne_eq, not_true_eq_false, not_false_eq_true, Nat.one_ne_zero, Nat.zero_ne_one, Nat.succ_ne_self, Nat.reduceAdd, Bool.false_eq_true, false_implies, implies_true, reduceCtorEq]
    rfl)) [(1, i)] rfl rfl rfl (by omega) rfl rfl
    ⟨sub_wr rfl hi.1 hi.2 hg rfl, trivial⟩ (by simp [apartB, apart1, rn, lk]) (by simp [wrNZ, rn, lk]; omega) (by omega)
  exact this
variable {H : Hp} {n : Nat} {x : Nat → Option SO}
variable {H : Hp} {n : Nat} {x : Nat → Option SO}
variable {H : Hp} {n : Nat} {x : Nat → Option SO}
variable {H : Hp} {n : Nat} {x : Nat → Option SO}
variable {H : Hp} {n : Nat} {x : Nat → Option SO}
variable {H : Hp} {n : Nat} {x : Nat → Option SO}
end
section
/- Trees, at this program. -/
set_option linter.unusedVariables false
set_option linter.unusedSimpArgs false
set_option maxRecDepth 100000
open Go.Proofs
variable {H : Hp} {n : Nat} {x : Nat → Option SO}
theorem leftS {s : ByteArray} {e : Int} {i : Nat} (hg : H.get i = some (rdO s e)) : SpecAt Tryz.prog nRLeft [.ptr i 0] H n (.v (.int .i64 (s.size : Nat))) H n := okT.pure tRLeft (by
  unfold mRLeft
  unfold rdO at hg
  simp -implicitDefEqProofs only [↓fnVC, initTm]
  simp -implicitDefEqProofs only [go_sem, hg])
theorem failW {s : ByteArray} {e f : Int} : fnVC CT mRFail [.ptr 1 0, .v (.int .i64 f)] ⟨[(1, some (rdO s e))], x⟩ 2 fun v H' n' => Sub 2 ⟨[(0, .tup [])], ⟨[(1, some (rdO s (failE e f)))], x⟩, 2⟩ ⟨[(0, v)], H', n'⟩ := by
  unfold mRFail
  simp -implicitDefEqProofs only [↓fnVC, initTm]
  simp -implicitDefEqProofs only [go_sem]
  refine at_call tRErr (errS (i := 1) (by rfl)) ?_
  unfold failE
  by_cases he : e = 0
  · have g0 : decide (e = 0) = true := decide_eq_true he
    rw [if_pos he]
    simp -implicitDefEqProofs only [go_sem, g0, rdO]
    refine sub_mk [] rfl rfl rfl ?_
    simp only [tmSub, hpSub, objSub, eqTm, eqHp, rn, lk, SV.ren, SV.renC, SV.renB, SV.renA, ren_ints, ren_strs, ren_pl, ren_svs, SV.v.injEq, Value.int.injEq, Body.ints.injEq, SV.ptr.injEq, SV.sl.injEq, Value.string.injEq, Value.bool.injEq, List.map_cons, List.map_nil, forall_const, Nat.reduceLT, Nat.lt_add_one, imp_self, true_and, and_true, and_self, ob_some, get_mk, lk_cons, ↓reduceIte, Nat.reduceEqDiff, ne_eq, not_true_eq_false, not_false_eq_true, Nat.one_ne_zero, Nat.zero_ne_one, Nat.succ_ne_self, Nat.reduceAdd, Bool.false_eq_true, false_implies, implies_true, reduceCtorEq]
  · have g0 : decide (e = 0) = false := decide_eq_false he
    rw [if_neg he]
    simp -implicitDefEqProofs only [go_sem, g0, rdO]
    refine sub_mk [] rfl rfl rfl ?_
    simp only [tmSub, hpSub, objSub, eqTm, eqHp, rn, lk, SV.ren, SV.renC, SV.renB, SV.renA, ren_ints, ren_strs, ren_pl, ren_svs, SV.v.injEq, Value.int.injEq, Body.ints.injEq, SV.ptr.injEq, SV.sl.injEq, Value.string.injEq, Value.bool.injEq, List.map_cons, List.map_nil, forall_const, Nat.reduceLT, Nat.lt_add_one, imp_self, true_and, and_true, and_self, ob_some, get_mk, lk_cons, ↓reduceIte, Nat.reduceEqDiff, ne_eq, not_true_eq_false, not_false_eq_true, Nat.one_ne_zero, Nat.zero_ne_one, Nat.succ_ne_self, Nat.reduceAdd, Bool.false_eq_true, false_implies, implies_true, reduceCtorEq]
theorem failSp {s : ByteArray} {e f : Int} {i : Nat} (hg : H.get i = some (rdO s e)) (hi : 0 < i ∧ i < 1000) :
    SpecAt Tryz.prog nRFail [.ptr i 0, .v (.int .i64 f)] H n (.tup []) ⟨(i, some (rdO s (failE e f))) :: H.l, H.x⟩ n := by
  have := lift (n := n) (okT.spec tRFail (failW (x := H.x) (s := s) (e := e) (f := f))) [(1, i)] rfl rfl rfl (by omega) rfl rfl
    ⟨sub_wr rfl hi.1 hi.2 hg rfl, trivial⟩ (by simp [apartB, apart1, rn, lk]) (by simp [wrNZ, rn, lk]; omega) (by omega)
  exact this
variable {H : Hp} {n : Nat} {x : Nat → Option SO}
theorem eight_ok {s : ByteArray} {e : Int} : numOK (rawT s (preE s e) 8) := by
  unfold rawT
  by_cases h : preE s e ≠ 0 ∨ s.size < 8
  · rw [if_pos h]; exact .inl (by decide)
  · rw [if_neg h]
    have h1 : preE s e = 0 := by
      by_cases h0 : preE s e = 0
      · exact h0
      · exact absurd (.inl h0) h
    have h2 : 8 ≤ s.size := by omega
    have h3 : (nbs s).getD 0 0 < 128 := by
      unfold preE at h1
      split at h1
      · omega
      · rename_i hn
        by_cases h4 : 128 ≤ (nbs s).getD 0 0
        · exact absurd ⟨h1, h2, h4⟩ hn
        · omega
    refine .inr ⟨by rw [ByteArray.size_extract]; omega, ?_⟩
    have e1 : nbs (s.extract 0 8) = (nbs s).take 8 := by
      unfold nbs; simp [ByteArray.data_extract, List.extract_eq_take_drop, List.map_take]
    rw [e1, List.getD_eq_getElem?_getD, List.getElem?_take, if_pos (by decide), ← List.getD_eq_getElem?_getD]; exact h3
theorem eightSp {s : ByteArray} {e : Int} {i : Nat} (hg : H.get i = some (rdO s e)) (hi : 0 < i ∧ i < 1000) :
    SpecAt Tryz.prog nREight [.ptr i 0] H n (.v (.int .i64 (num (rawT s (preE s e) 8) : Nat))) ⟨(i, some (rdO (rawS s (preE s e) 8) (rawE s (preE s e) 8))) :: H.l, H.x⟩ n := by
  have := lift (n := n) (okT.spec tREight (args := [.ptr 1 0]) (H := ⟨[(1, some (rdO s e))], H.x⟩) (n := 2) (v := .v (.int .i64 (num (rawT s (preE s e) 8) : Nat))) (H' := ⟨[(1, some (rdO (rawS s (preE s e) 8) (rawE s (preE s e) 8)))], H.x⟩) (n' := 2) (by
    have hok := eight_ok (s := s) (e := e)
    unfold mREight
    simp -implicitDefEqProofs only [↓fnVC, initTm]
    simp -implicitDefEqProofs only [go_sem]
    refine at_call tRLeft (leftS (i := 1) (by rfl)) ?_
    by_cases h8 : 8 ≤ s.size
    · have g0 : decide ((s.size : Int) ≥ 8) = true := decide_eq_true (by omega)
      have hb := bts_getD (t := s) (j := 0) (by omega)
      by_cases h128 : 128 ≤ (nbs s).getD 0 0
      · have g1 : decide ((((nbs s).getD 0 0 : Nat) : Int) > 127) = true := decide_eq_true (by omega)
        have hE : failE e 3 = preE s e := by
          unfold failE preE
          by_cases h0 : e = 0
          · rw [if_pos h0, if_pos ⟨h0, h8, h128⟩]
          · rw [if_neg h0, if_neg (fun h => h0 h.1)]
        simp -implicitDefEqProofs only [go_sem, g0, rdO, hb, g1]
        refine ⟨by omega, ?_⟩
        refine at_call tRFail (failSp (i := 1) (s := s) (e := e) (f := 3) (by rfl) (by decide)) ?_
        rw [hE]
        simp -implicitDefEqProofs only [go_sem]
        refine at_call tRNumber (numSp (i := 1) (k := 8) (s := s) (e := preE s e) (by rfl) (by decide) (by decide) hok) ?_
        simp -implicitDefEqProofs only [go_sem]
        refine sub_mk [] rfl rfl rfl ?_
        simp only [tmSub, hpSub, objSub, eqTm, eqHp, rn, lk, SV.ren, SV.renC, SV.renB, SV.renA, ren_ints, ren_strs, ren_pl, ren_svs, SV.v.injEq, Value.int.injEq, Body.ints.injEq, SV.ptr.injEq, SV.sl.injEq, Value.string.injEq, Value.bool.injEq, List.map_cons, List.map_nil, forall_const, Nat.reduceLT, Nat.lt_add_one, imp_self, true_and, and_true, and_self, ob_some, get_mk, lk_cons, ↓reduceIte, Nat.reduceEqDiff, ne_eq, not_true_eq_false, not_false_eq_true, Nat.one_ne_zero, Nat.zero_ne_one, Nat.succ_ne_self, Nat.reduceAdd, Bool.false_eq_true, false_implies, implies_true, reduceCtorEq]
        rfl
      · have g1 : decide ((((nbs s).getD 0 0 : Nat) : Int) > 127) = false := decide_eq_false (by omega)
        have hE : preE s e = e := by unfold preE; rw [if_neg (fun h => h128 h.2.2)]
        rw [hE] at hok ⊢
        simp -implicitDefEqProofs only [go_sem, g0, rdO, hb, g1]
        refine ⟨by omega, ?_⟩
        refine at_call tRNumber (numSp (i := 1) (k := 8) (s := s) (e := e) (by rfl) (by decide) (by decide) hok) ?_
        simp -implicitDefEqProofs only [go_sem]
        refine sub_mk [] rfl rfl rfl ?_
        simp only [tmSub, hpSub, objSub, eqTm, eqHp, rn, lk, SV.ren, SV.renC, SV.renB, SV.renA, ren_ints, ren_strs, ren_pl, ren_svs, SV.v.injEq, Value.int.injEq, Body.ints.injEq, SV.ptr.injEq, SV.sl.injEq, Value.string.injEq, Value.bool.injEq, List.map_cons, List.map_nil, forall_const, Nat.reduceLT, Nat.lt_add_one, imp_self, true_and, and_true, and_self, ob_some, get_mk, lk_cons, ↓reduceIte, Nat.reduceEqDiff, ne_eq, not_true_eq_false, not_false_eq_true, Nat.one_ne_zero, Nat.zero_ne_one, Nat.succ_ne_self, Nat.reduceAdd, Bool.false_eq_true, false_implies, implies_true, reduceCtorEq, rdO]
    · have g0 : decide ((s.size : Int) ≥ 8) = false := decide_eq_false (by omega)
      have hE : preE s e = e := by unfold preE; rw [if_neg (fun h => h8 h.2.1)]
      rw [hE] at hok ⊢
      simp -implicitDefEqProofs only [go_sem, g0]
      refine at_call tRNumber (numSp (i := 1) (k := 8) (by rfl) (by decide) (by decide) hok) ?_
      simp -implicitDefEqProofs only [go_sem]
      refine sub_mk [] rfl rfl rfl ?_
      simp only [tmSub, hpSub, objSub, eqTm, eqHp, rn, lk, SV.ren, SV.renC, SV.renB, SV.renA, ren_ints, ren_strs, ren_pl, ren_svs, SV.v.injEq, Value.int.injEq, Body.ints.injEq, SV.ptr.injEq, SV.sl.injEq, Value.string.injEq, Value.bool.injEq, List.map_cons, List.map_nil, forall_const, Nat.reduceLT, Nat.lt_add_one, imp_self, true_and, and_true, and_self, ob_some, get_mk, lk_cons, ↓reduceIte, Nat.reduceEqDiff, ne_eq, not_true_eq_false, not_false_eq_true, Nat.one_ne_zero, Nat.zero_ne_one, Nat.succ_ne_self, Nat.reduceAdd, Bool.false_eq_true, false_implies, implies_true, reduceCtorEq]
      rfl)) [(1, i)] rfl rfl rfl (by omega) rfl rfl
    ⟨sub_wr rfl hi.1 hi.2 hg rfl, trivial⟩ (by simp [apartB, apart1, rn, lk]) (by simp [wrNZ, rn, lk]; omega) (by omega)
  exact this
end
section
/- Trees, at this program. -/
set_option linter.unusedVariables false
set_option linter.unusedSimpArgs false
set_option maxRecDepth 100000
open Go.Proofs
variable {H : Hp} {n : Nat} {x : Nat → Option SO}
variable {H : Hp} {n : Nat} {x : Nat → Option SO}
variable {H : Hp} {n : Nat} {x : Nat → Option SO}
variable {H : Hp} {n : Nat} {x : Nat → Option SO}
variable {H : Hp} {n : Nat} {x : Nat → Option SO}
variable {H : Hp} {n : Nat} {x : Nat → Option SO}
variable {H : Hp} {n : Nat} {x : Nat → Option SO}
end
section
/- Packing: the document's writer, numbers and texts. -/
set_option linter.unusedVariables false
set_option linter.unusedSimpArgs false
set_option maxRecDepth 100000
open Go.Proofs
variable {H : Hp} {n : Nat} {x : Nat → Option SO}
end
end Go.Sx