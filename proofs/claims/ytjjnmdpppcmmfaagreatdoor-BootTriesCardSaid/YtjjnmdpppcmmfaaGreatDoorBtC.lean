/- Trees, at this program. -/
import Derived.Test.YtjjnmdpppcmmfaaGreatDoorBtB

set_option linter.unusedVariables false
set_option linter.unusedSimpArgs false
set_option maxRecDepth 100000
namespace Go.Sx
attribute [local go_sem ↓] bind_mk intsB_mk strsB_mk svB_mk fnVC ob_some vc_skip vc_exit vc_ret vc_seq vc_block kSeq_normal kSeq_exit kSeq_ret kBlock_normal kBlock_exit kBlock_ret vc_reg vc_regD vc_cond condK_true condK_false vc_loop kLoop_exit kLoop_ret kRoll_normal kRoll_exit kRoll_ret vcOps_nil vcOps_cons gd_bool gd_undef put_some put_none vcT_fin vcT_pure vcT_act vcT_acts vcT_stop stab_none stab_some stabM_nil stabM_cons stabO_ld stabO_ldn stabO_slP stabO_b2s fldOf_ai fldOf_agg fldOf_ait fldOf_aggt intsOf_nil intsOf_cons strsOf_nil strsOf_cons c_omap ob_if lk_nil lk_cons ev_t ev_k z_mov z_pick z_bin z_binA z_binB z_binP z_un z_r2s z_conv z_s2b z_b2s z_mkM z_luM z_upM z_lenM lenMk_mp lenMk_nil plsOf_v z_delM asM_so plV_v plV_agg mpOf_mp mpOf_nil mpUp_mp asM_mp luV_ok luV_v z_allocT aggOf_mk z_boxT z_alloc z_bld z_bldI z_rowI z_rowS z_ld z_ldn z_st z_stn asN_ptr asN_fn z_nilck z_fld z_fadr z_idxA z_idxP z_idxS z_idxV z_slS z_slL z_slP z_mk z_lenS z_lenL z_app appC_ints appC_pl appC_sv appC_strs isS_strs loose_ints loose_pl loose_sv z_slM z_callv callvK_fn callvK_f callvK_yl vc_rangeF rfEnd_eq rfGo_none rfGo_ret rfGo_exit yGo_mk yEnd_n yEnd_r yEnd_e yRdy_mk yMid_n putPs_nil putPs_cons leaf_v leaf_ptr leaf_sl leaf_yl leaf_mp z_appS z_appST z_appZ z_cpyS z_mkfn reps_int reps_str z_rowV z_slnil nilK_zero z_cpy z_call asT_tup z_extT z_box boxOf_ai boxOf_agg boxOf_int boxOf_str boxOf_bool boxOf_ptr boxOf_sl sbin_int sbin_str sbinA_mk ae_nil ae_int ae_str sbinB_mk sbinP_nn sbinP_pn sbinP_np i_add i_sub i_mul i_quo i_rem i_and i_or i_xor i_andNot i_shl i_shr i_eql i_neq i_lss i_leq i_gtr i_geq st_add st_eql st_neq st_lss st_leq st_gtr st_geq bo_eql bo_neq pt_eql pt_neq un_neg un_xor un_not asI_mk asB_mk asS_mk asP_mk asSl_mk asBy_mk bnd_none bnd_some get_mk hput_mk hdel_mk kill_eq wrOf_eq rowOf_eq rsvs_0 rsvs_1 rsvs_2 rsvs_3 rsv_t rsv_c1 rsv_cn nt_v nt_ptr nt_sl nt_agg nt_ai get_ints get_strs get_pl get_sv getN_ints getN_sv set_ints set_strs set_sv setN_ints setN_sv part_ints part_strs part_sv cat_ints cat_strs cat_sv over_ints over_strs over_sv ones_ints ones_strs evs_nil evs_cons condK_eqt condK_eqf det_callP V_ns V_nn V_gs V_gn obC_mk fresh_ev freshT_ev freshR_ev setN_plagg setN_intsv setN_svai setN_svagg over_intsv set_pl setN_pl setN_plai getN_pl getN_strs part_pl cat_pl over_pl over_plints z_mm
attribute [local go_sem] initTm ne_eq not_true_eq_false not_false_eq_true true_and and_true List.length_cons List.length_nil Int.toNat_natCast Nat.add_zero Nat.zero_add Nat.mul_one List.getElem?_cons_zero List.drop_zero List.take_length List.take_succ_cons List.take_zero List.take_nil List.drop_succ_cons Option.map_some Nat.le_refl implies_true List.getElem?_cons_succ decide_true decide_false Bool.not_true Bool.not_false beq_self_eq_true Nat.succ_ne_self Nat.one_ne_zero Nat.zero_ne_one vk_mk hk_mk nk_mk tok_eq plsOf_map intsOf_map bodyOf_pl bodyOf_ints bodyOf_strs bodyOf_sv part_aggv part_agg part_ai part_int part_str part_bool part_sl part_ptr part_nil numsOf_map u_int u_str u_bool u_pnil u_sl u_ptr u_oci u_ocs evq_nil evq_cons fillS_nil fillS_cons u_ocb ones_pl cells_sv cells_ints cells_strs cells_pl smms_nil smms_cons smm_min smm_max plsOf_nil List.nil_append List.all_cons List.all_nil Bool.and_self Bool.true_and Bool.and_true zws_len zw_len zi_len List.set_cons_zero List.set_cons_succ List.flatMap_cons List.flatMap_nil List.append_nil
attribute [local go_sem_proc] Nat.reduceEqDiff Nat.reduceAdd Nat.reduceMul Nat.reduceLT Nat.reduceLeDiff Nat.reduceSub Int.reduceToNat Int.reduceLE Int.reduceLT reduceCtorEq Int.reduceEq Int.reduceGT Int.reduceGE Int.reduceNeg
attribute [local go_sem_proc ↓] reduceIte
section
open Go.Proofs
variable {H : Hp} {n : Nat} {x : Nat → Option SO}
theorem rdKS {f : Nat} {m : MFn} (t : trFn Tryz.prog f = some m) {k : Nat} {s : ByteArray} {e : Int} {i : Nat} (hm : ∀ x, fnVC CT m [.ptr 1 0] ⟨[(1, some (rdO s e))], x⟩ 2 fun v H' n' => Sub 2 ⟨[(0, .v (.int .i64 (num (rawT s e k) : Nat)))], ⟨[(1, some (rdO (rawS s e k) (rawE s e k)))], x⟩, 2⟩ ⟨[(0, v)], H', n'⟩)
    (hg : H.get i = some (rdO s e)) (hi : 0 < i ∧ i < 1000) :
    SpecAt Tryz.prog f [.ptr i 0] H n (.v (.int .i64 (num (rawT s e k) : Nat))) ⟨(i, some (rdO (rawS s e k) (rawE s e k))) :: H.l, H.x⟩ n := by
  have := lift (n := n) (okT.spec t (hm H.x)) [(1, i)] rfl rfl rfl (by omega) rfl rfl
    ⟨sub_wr rfl hi.1 hi.2 hg rfl, trivial⟩ (by simp [apartB, apart1, rn, lk]) (by simp [wrNZ, rn, lk]; omega) (by omega)
  exact this
theorem numOK7 {s : ByteArray} {e : Int} {k : Nat} (h : k ≤ 7) : numOK (rawT s e k) := .inl (Nat.le_trans rawT_size h)
theorem fourS {s : ByteArray} {e : Int} {i : Nat} (hg : H.get i = some (rdO s e)) (hi : 0 < i ∧ i < 1000) :
    SpecAt Tryz.prog nRFour [.ptr i 0] H n (.v (.int .i64 (num (rawT s e 4) : Nat))) ⟨(i, some (rdO (rawS s e 4) (rawE s e 4))) :: H.l, H.x⟩ n := rdKS tRFour (by
  intro x
  unfold mRFour
  simp -implicitDefEqProofs only [↓fnVC, initTm]
  simp -implicitDefEqProofs only [go_sem]
  refine at_call tRNumber (numSp (i := 1) (s := s) (e := e) (k := 4) (by rfl) (by decide) (by decide) (numOK7 (by decide))) ?_
  simp -implicitDefEqProofs only [go_sem]
  refine sub_mk [] rfl rfl rfl ?_
  simp only [tmSub, hpSub, objSub, eqTm, eqHp, rn, lk, SV.ren, SV.renC, SV.renB, SV.renA, ren_ints, ren_strs, ren_pl, ren_svs, SV.v.injEq, Value.int.injEq, Body.ints.injEq, SV.ptr.injEq, SV.sl.injEq, Value.string.injEq, Value.bool.injEq, List.map_cons, List.map_nil, forall_const, Nat.reduceLT, Nat.lt_add_one, imp_self, true_and, and_true, and_self, ob_some, get_mk, lk_cons, ↓reduceIte, Nat.reduceEqDiff, ne_eq, not_true_eq_false, not_false_eq_true, Nat.one_ne_zero, Nat.zero_ne_one, Nat.succ_ne_self, Nat.reduceAdd, Bool.false_eq_true, false_implies, implies_true, reduceCtorEq, rdO]) hg hi
theorem twoS {s : ByteArray} {e : Int} {i : Nat} (hg : H.get i = some (rdO s e)) (hi : 0 < i ∧ i < 1000) :
    SpecAt Tryz.prog nRTwo [.ptr i 0] H n (.v (.int .i64 (num (rawT s e 2) : Nat))) ⟨(i, some (rdO (rawS s e 2) (rawE s e 2))) :: H.l, H.x⟩ n := rdKS tRTwo (by
  intro x
  unfold mRTwo
  simp -implicitDefEqProofs only [↓fnVC, initTm]
  simp -implicitDefEqProofs only [go_sem]
  refine at_call tRNumber (numSp (i := 1) (s := s) (e := e) (k := 2) (by rfl) (by decide) (by decide) (numOK7 (by decide))) ?_
  simp -implicitDefEqProofs only [go_sem]
  refine sub_mk [] rfl rfl rfl ?_
  simp only [tmSub, hpSub, objSub, eqTm, eqHp, rn, lk, SV.ren, SV.renC, SV.renB, SV.renA, ren_ints, ren_strs, ren_pl, ren_svs, SV.v.injEq, Value.int.injEq, Body.ints.injEq, SV.ptr.injEq, SV.sl.injEq, Value.string.injEq, Value.bool.injEq, List.map_cons, List.map_nil, forall_const, Nat.reduceLT, Nat.lt_add_one, imp_self, true_and, and_true, and_self, ob_some, get_mk, lk_cons, ↓reduceIte, Nat.reduceEqDiff, ne_eq, not_true_eq_false, not_false_eq_true, Nat.one_ne_zero, Nat.zero_ne_one, Nat.succ_ne_self, Nat.reduceAdd, Bool.false_eq_true, false_implies, implies_true, reduceCtorEq, rdO]) hg hi
theorem num_lt' {t : ByteArray} (h : t.size ≤ 7) : num t < 72057594037927936 := by
  have := nvl_bound (l := nbs t) nbs_lt (j := (nbs t).length) (Nat.le_refl _)
  rw [List.take_length, nbs_len] at this
  refine Nat.lt_of_lt_of_le this (Nat.le_trans (Nat.pow_le_pow_right (by decide) h) (by decide))
theorem bts_app {a b : ByteArray} : bts (a ++ b) = bts a ++ bts b := by simp [bts]
theorem bts_bytes {a : ByteArray} : ∀ y ∈ bts a, 0 ≤ y ∧ y ≤ 255 := by
  intro y hy
  unfold bts at hy
  obtain ⟨b, _, rfl⟩ := List.mem_map.1 hy
  have := b.toNat_lt
  exact ⟨by omega, by omega⟩
theorem ba_nil {a : ByteArray} : (⟨#[]⟩ : ByteArray) ++ a = a := by apply ByteArray.ext; simp
theorem ba_zero {a : ByteArray} (h : a.size = 0) : a = ⟨#[]⟩ := by
  apply ByteArray.ext
  exact Array.eq_empty_of_size_eq_zero h
theorem loopU_fam {C : Tab} {base : Nat} {α : Type} (p : α → Prop) (I : α → St) (μ : α → Nat) (a0 : α) {b : MC} {s : St} {K : Ex → St → Prop} (h0 : p a0) (hs : Sub base (I a0) s)
    (hr : ∀ a, p a → vc C base b (I a) (kLoop base p I μ a K)) : LoopU base (vc C base b) 0 s K := by
  refine ⟨{a // p a}, fun a => I a.1, fun a => μ a.1, ⟨⟨a0, h0⟩, hs⟩, fun a => ?_⟩
  have := hr a.1 a.2
  refine vc_mono (fun e s' h => ?_) this
  cases e with
  | normal =>
    obtain ⟨a', h1, h2, h3⟩ := h
    exact ⟨⟨a', h1⟩, h3, h2⟩
  | exit j => exact h
  | ret => exact h
variable {H : Hp} {n : Nat} {x : Nat → Option SO}
theorem seq_emp {s : ByteArray} (h : s.size = 0) : seq s ⟨#[]⟩ = true := by rw [ba_zero h]; exact seq_self _
theorem seq_nemp {s : ByteArray} (h : ¬s.size = 0) : seq s ⟨#[]⟩ = false := seq_ne fun e => h (by rw [e]; rfl)
theorem ex_size {s : ByteArray} {a b : Nat} : (s.extract a b).size = min b s.size - a := ByteArray.size_extract
variable {H : Hp} {n : Nat} {x : Nat → Option SO}
theorem wKS {f : Nat} {m : MFn} {bs ys : List Int} {i r : Nat} (t : trFn Tryz.prog f = some m) {a : SV} (ha : ∀ π, a.ren π = a) (hlt : ltT 3 a = true)
    (hm : ∀ x, fnVC CT m [.ptr 1 0, a] ⟨[(1, some (wrO 2 bs.length false)), (2, some ⟨true, .ints .u8 bs⟩)], x⟩ 3 fun v H' n' => Sub 3 ⟨[(0, .tup [])], ⟨[(1, some (wrO 3 (bs ++ ys).length false)), (2, none), (3, some ⟨true, .ints .u8 (bs ++ ys)⟩)], x⟩, 4⟩ ⟨[(0, v)], H', n'⟩)
    (hg : H.get i = some (wrO r bs.length false)) (hr : H.get r = some ⟨true, .ints .u8 bs⟩) (hi : 0 < i ∧ i < 1000) (hr1 : 0 < r ∧ r < 1000) (hne : i ≠ r) (hn : n + 1 ≤ 1000) :
    SpecAt Tryz.prog f [.ptr i 0, a] H n (.tup []) ⟨(i, some (wrO n (bs ++ ys).length false)) :: (r, none) :: (n, some ⟨true, .ints .u8 (bs ++ ys)⟩) :: H.l, H.x⟩ (n + 1) := by
  have := lift (n := n) (okT.spec t (hm H.x)) [(1, i), (2, r)] rfl rfl (by simp [ltT, ltB, ltC, ltA, idOK] at hlt ⊢; exact hlt) (by omega) rfl rfl
    ⟨sub_wr rfl hi.1 hi.2 hg rfl, sub_wr rfl hr1.1 hr1.2 hr rfl, trivial⟩ (by simp [apartB, apart1, rn, lk, hne, Ne.symm hne]) (by simp [wrNZ, rn, lk]; omega) (by omega)
  rw [List.map_cons, List.map_cons, List.map_nil, ha] at this
  exact this
theorem wFourS {i r y : Nat} {bs : List Int} (hy : y < 4294967296) (hb : bs.length ≤ 1099511627776) (hg : H.get i = some (wrO r bs.length false)) (hr : H.get r = some ⟨true, .ints .u8 bs⟩) (hi : 0 < i ∧ i < 1000) (hr1 : 0 < r ∧ r < 1000) (hne : i ≠ r) (hn : n + 1 ≤ 1000) :
    SpecAt Tryz.prog nWFour [.ptr i 0, .v (.int .i64 y)] H n (.tup []) ⟨(i, some (wrO n (bs ++ be y 4).length false)) :: (r, none) :: (n, some ⟨true, .ints .u8 (bs ++ be y 4)⟩) :: H.l, H.x⟩ (n + 1) := wKS tWFour (fun _ => rfl) rfl (by
  intro x
  unfold mWFour
  simp -implicitDefEqProofs only [↓fnVC, initTm]
  simp -implicitDefEqProofs only [go_sem]
  refine at_call tWNumber (wNumS (i := 1) (r := 2) (k := 4) (y := y) (bs := bs) (bad := false) (by rfl) (by rfl) (by decide) (by decide) (by decide) (by decide) (by decide) (by omega) (fun _ => hy) hb) ?_
  simp -implicitDefEqProofs only [go_sem]
  refine sub_mk [] rfl rfl rfl ?_
  simp only [tmSub, hpSub, objSub, eqTm, eqHp, rn, lk, SV.ren, SV.renC, SV.renB, SV.renA, ren_ints, ren_strs, ren_pl, ren_svs, SV.v.injEq, Value.int.injEq, Body.ints.injEq, SV.ptr.injEq, SV.sl.injEq, Value.string.injEq, Value.bool.injEq, List.map_cons, List.map_nil, forall_const, Nat.reduceLT, Nat.lt_add_one, imp_self, true_and, and_true, and_self, ob_some, get_mk, lk_cons, ↓reduceIte, Nat.reduceEqDiff, ne_eq, not_true_eq_false, not_false_eq_true, Nat.one_ne_zero, Nat.zero_ne_one, Nat.succ_ne_self, Nat.reduceAdd, Bool.false_eq_true, false_implies, implies_true, reduceCtorEq, wrO]) hg hr hi hr1 hne hn
theorem wTextS {i r : Nat} {s : ByteArray} {bs : List Int} (hs : s.size < 65536) (hb : bs.length ≤ 1000000000) (hg : H.get i = some (wrO r bs.length false)) (hr : H.get r = some ⟨true, .ints .u8 bs⟩) (hi : 0 < i ∧ i < 1000) (hr1 : 0 < r ∧ r < 1000) (hne : i ≠ r) (hn : n + 1 ≤ 1000) :
    SpecAt Tryz.prog nWText [.ptr i 0, .v (.string s)] H n (.tup []) ⟨(i, some (wrO n (bs ++ (be s.size 2 ++ bts s)).length false)) :: (r, none) :: (n, some ⟨true, .ints .u8 (bs ++ (be s.size 2 ++ bts s))⟩) :: H.l, H.x⟩ (n + 1) := wKS tWText (fun _ => rfl) rfl (by
  intro x
  unfold mWText
  simp -implicitDefEqProofs only [↓fnVC, initTm]
  unfold wrO
  simp -implicitDefEqProofs only [go_sem]
  refine at_call tWNumber (wNumS (i := 1) (r := 2) (k := 2) (y := s.size) (bs := bs) (bad := false) (by rfl) (by rfl) (by decide) (by decide) (by decide) (by decide) (by decide) (by omega) (fun _ => hs) (by omega)) ?_
  unfold wrO
  simp -implicitDefEqProofs only [go_sem]
  refine ⟨by rw [List.length_append, be_len]; omega, ?_⟩
  refine sub_mk [(3, 4)] rfl rfl rfl ?_
  simp only [tmSub, hpSub, objSub, eqTm, eqHp, rn, lk, SV.ren, SV.renC, SV.renB, SV.renA, ren_ints, ren_strs, ren_pl, ren_svs, SV.v.injEq, Value.int.injEq, Body.ints.injEq, SV.ptr.injEq, SV.sl.injEq, Value.string.injEq, Value.bool.injEq, List.map_cons, List.map_nil, forall_const, Nat.reduceLT, Nat.lt_add_one, imp_self, true_and, and_true, and_self, ob_some, get_mk, lk_cons, ↓reduceIte, Nat.reduceEqDiff, ne_eq, not_true_eq_false, not_false_eq_true, Nat.one_ne_zero, Nat.zero_ne_one, Nat.succ_ne_self, Nat.reduceAdd, Bool.false_eq_true, false_implies, implies_true, reduceCtorEq]
  rw [← List.append_assoc, List.length_append (bs := bts s), bts_len]
  repeat' (first | rfl | apply And.intro)) hg hr hi hr1 hne hn
theorem ex_l {a b : ByteArray} {i j : Nat} (h : j ≤ a.size) : (a ++ b).extract i j = a.extract i j := by
  apply bts_inj
  rw [bts_ext, bts_ext, bts_app]
  have hl := bts_len a
  by_cases c : i ≤ j
  · rw [List.drop_append_of_le_length (by omega), List.take_append_of_le_length (by rw [List.length_drop]; omega)]
  · rw [show j - i = 0 by omega]; rfl
theorem ex_r {a b : ByteArray} {k : Nat} (h : a.size = k) : (a ++ b).extract k (a ++ b).size = b := by
  apply bts_inj
  rw [bts_ext, bts_app]
  have hl := bts_len a
  rw [List.drop_left' (by omega), List.take_of_length_le (by rw [bts_len, ByteArray.size_append]; omega)]
theorem ex_a {a b : ByteArray} {k : Nat} (h : a.size = k) : (a ++ b).extract 0 k = a := by
  rw [ex_l (by omega), ← h, ext_all]
theorem app_nil {a : ByteArray} : a ++ (⟨#[]⟩ : ByteArray) = a := by apply ByteArray.ext; simp
end
section
/- Small things, at this program. -/
set_option linter.unusedVariables false
set_option linter.unusedSimpArgs false
set_option maxRecDepth 100000
open Go.Proofs
variable {H : Hp} {n : Nat} {x : Nat → Option SO}
variable {H : Hp} {n : Nat} {x : Nat → Option SO}
variable {H : Hp} {n : Nat} {x : Nat → Option SO}
variable {H : Hp} {n : Nat} {x : Nat → Option SO}
variable {H : Hp} {n : Nat} {x : Nat → Option SO}
theorem wHashW {bs : List Int} {bad : Bool} {h : ByteArray} (hb : bs.length ≤ 1099511627776) (hh : h.size ≤ 536870000) :
    fnVC CT mWHash [.ptr 1 0, .v (.string h)] ⟨[(1, some (wrO 2 bs.length bad)), (2, some ⟨true, .ints .u8 bs⟩)], x⟩ 3 fun v H' n' => Sub 3 ⟨[(0, .tup [])], ⟨[(1, some (wrO 3 (bs ++ bts h).length (bad || decide (h.size ≠ 32)))), (2, none), (3, some ⟨true, .ints .u8 (bs ++ bts h)⟩)], x⟩, 4⟩ ⟨[(0, v)], H', n'⟩ := by
  unfold mWHash wrO
  simp -implicitDefEqProofs only [↓fnVC, initTm]
  cases bad with
  | true =>
    simp -implicitDefEqProofs only [go_sem]
    refine ⟨by omega, sub_mk [] rfl rfl rfl ?_⟩
    simp only [tmSub, hpSub, objSub, eqTm, eqHp, rn, lk, SV.ren, SV.renC, SV.renB, SV.renA, ren_ints, ren_strs, ren_pl, ren_svs, SV.v.injEq, Value.int.injEq, Body.ints.injEq, SV.ptr.injEq, SV.sl.injEq, Value.string.injEq, Value.bool.injEq, List.map_cons, List.map_nil, forall_const, Nat.reduceLT, Nat.lt_add_one, imp_self, true_and, and_true, and_self, ob_some, get_mk, lk_cons, ↓reduceIte, Nat.reduceEqDiff, ne_eq, not_true_eq_false, not_false_eq_true, Nat.one_ne_zero, Nat.zero_ne_one, Nat.succ_ne_self, Nat.reduceAdd, Bool.false_eq_true, false_implies, implies_true, reduceCtorEq, List.length_append, bts_len, Bool.true_or]
  | false =>
    simp -implicitDefEqProofs only [go_sem]
    refine ⟨by omega, sub_mk [] rfl rfl rfl ?_⟩
    have e : (false || decide (h.size ≠ 32)) = !decide ((h.size : Int) = 32) := by
      by_cases hh : h.size = 32
      · rw [hh]; rfl
      · rw [decide_eq_true hh, decide_eq_false (by omega)]; rfl
    rw [e]
    simp only [tmSub, hpSub, objSub, eqTm, eqHp, rn, lk, SV.ren, SV.renC, SV.renB, SV.renA, ren_ints, ren_strs, ren_pl, ren_svs, SV.v.injEq, Value.int.injEq, Body.ints.injEq, SV.ptr.injEq, SV.sl.injEq, Value.string.injEq, Value.bool.injEq, List.map_cons, List.map_nil, forall_const, Nat.reduceLT, Nat.lt_add_one, imp_self, true_and, and_true, and_self, ob_some, get_mk, lk_cons, ↓reduceIte, Nat.reduceEqDiff, ne_eq, not_true_eq_false, not_false_eq_true, Nat.one_ne_zero, Nat.zero_ne_one, Nat.succ_ne_self, Nat.reduceAdd, Bool.false_eq_true, false_implies, implies_true, reduceCtorEq, List.length_append, bts_len]
variable {H : Hp} {n : Nat} {x : Nat → Option SO}
theorem wHashS {i r : Nat} {bs : List Int} {bad : Bool} {h : ByteArray} (hg : H.get i = some (wrO r bs.length bad)) (hr : H.get r = some ⟨true, .ints .u8 bs⟩) (hi : 0 < i ∧ i < 1000) (hr1 : 0 < r ∧ r < 1000) (hne : i ≠ r) (hn : n + 1 ≤ 1000)
    (hb : bs.length ≤ 1099511627776) (hh : h.size ≤ 536870000) :
    SpecAt Tryz.prog nWHash [.ptr i 0, .v (.string h)] H n (.tup []) ⟨(i, some (wrO n (bs ++ bts h).length (bad || decide (h.size ≠ 32)))) :: (r, none) :: (n, some ⟨true, .ints .u8 (bs ++ bts h)⟩) :: H.l, H.x⟩ (n + 1) := by
  have := lift (n := n) (okT.spec tWHash (wHashW (x := H.x) hb hh)) [(1, i), (2, r)] rfl rfl rfl (by omega) rfl rfl
    ⟨sub_wr rfl hi.1 hi.2 hg rfl, sub_wr rfl hr1.1 hr1.2 hr rfl, trivial⟩ (by simp [apartB, apart1, rn, lk, hne, Ne.symm hne]) (by simp [wrNZ, rn, lk]; omega) (by omega)
  exact this
variable {H : Hp} {n : Nat} {x : Nat → Option SO}
variable {H : Hp} {n : Nat} {x : Nat → Option SO}
theorem hashSp {s : ByteArray} {e : Int} {i : Nat} (hg : H.get i = some (rdO s e)) (hi : 0 < i ∧ i < 1000) :
    SpecAt Tryz.prog nRHash [.ptr i 0] H n (.v (.string (rawT s e 32))) ⟨(i, some (rdO (rawS s e 32) (rawE s e 32))) :: H.l, H.x⟩ n := by
  have := lift (n := n) (okT.spec tRHash (args := [.ptr 1 0]) (H := ⟨[(1, some (rdO s e))], H.x⟩) (n := 2) (v := .v (.string (rawT s e 32))) (H' := ⟨[(1, some (rdO (rawS s e 32) (rawE s e 32)))], H.x⟩) (n' := 2) (by
    unfold mRHash
    simp -implicitDefEqProofs only [↓fnVC, initTm]
    simp -implicitDefEqProofs only [go_sem]
    refine at_call tRRaw (rawSp (i := 1) (k := 32) (by rfl) (by decide) (by decide)) ?_
    simp -implicitDefEqProofs only [go_sem]
    refine sub_mk [] rfl rfl rfl ?_
    simp only [tmSub, hpSub, objSub, eqTm, eqHp, rn, lk, SV.ren, SV.renC, SV.renB, SV.renA, ren_ints, ren_strs, ren_pl, ren_svs, SV.v.injEq, Value.int.injEq, Body.ints.injEq, SV.ptr.injEq, SV.sl.injEq, Value.string.injEq, Value.bool.injEq, List.map_cons, List.map_nil, forall_const, Nat.reduceLT, Nat.lt_add_one, imp_self, true_and, and_true, and_self, ob_some, get_mk, lk_cons, ↓reduceIte, Nat.reduceEqDiff, ne_eq, not_true_eq_false, not_false_eq_true, Nat.one_ne_zero, Nat.zero_ne_one, Nat.succ_ne_self, Nat.reduceAdd, Bool.false_eq_true, false_implies, implies_true, reduceCtorEq]
    rfl)) [(1, i)] rfl rfl rfl (by omega) rfl rfl
    ⟨sub_wr rfl hi.1 hi.2 hg rfl, trivial⟩ (by simp [apartB, apart1, rn, lk]) (by simp [wrNZ, rn, lk]; omega) (by omega)
  exact this
variable {H : Hp} {n : Nat} {x : Nat → Option SO}
variable {H : Hp} {n : Nat} {x : Nat → Option SO}
variable {H : Hp} {n : Nat} {x : Nat → Option SO}
variable {H : Hp} {n : Nat} {x : Nat → Option SO}
variable {H : Hp} {n : Nat} {x : Nat → Option SO}
variable {H : Hp} {n : Nat} {x : Nat → Option SO}
end
section
/- Trees, at this program. -/
set_option linter.unusedVariables false
set_option linter.unusedSimpArgs false
set_option maxRecDepth 100000
open Go.Proofs
variable {H : Hp} {n : Nat} {x : Nat → Option SO}
theorem leftS {s : ByteArray} {e : Int} {i : Nat} (hg : H.get i = some (rdO s e)) : SpecAt Tryz.prog nRLeft [.ptr i 0] H n (.v (.int .i64 (s.size : Nat))) H n := okT.pure tRLeft (by
  unfold mRLeft
  unfold rdO at hg
  simp -implicitDefEqProofs only [↓fnVC, initTm]
  simp -implicitDefEqProofs only [go_sem, hg])
theorem failW {s : ByteArray} {e f : Int} : fnVC CT mRFail [.ptr 1 0, .v (.int .i64 f)] ⟨[(1, some (rdO s e))], x⟩ 2 fun v H' n' => Sub 2 ⟨[(0, .tup [])], ⟨[(1, some (rdO s (failE e f)))], x⟩, 2⟩ ⟨[(0, v)], H', n'⟩ := by
  unfold mRFail
  simp -implicitDefEqProofs only [↓fnVC, initTm]
  simp -implicitDefEqProofs only [go_sem]
  refine at_call tRErr (errS (i := 1) (by rfl)) ?_
  unfold failE
  by_cases he : e = 0
  · have g0 : decide (e = 0) = true := decide_eq_true he
    rw [if_pos he]
    simp -implicitDefEqProofs only [go_sem, g0, rdO]
    refine sub_mk [] rfl rfl rfl ?_
    simp only [tmSub, hpSub, objSub, eqTm, eqHp, rn, lk, SV.ren, SV.renC, SV.renB, SV.renA, ren_ints, ren_strs, ren_pl, ren_svs, SV.v.injEq, Value.int.injEq, Body.ints.injEq, SV.ptr.injEq, SV.sl.injEq, Value.string.injEq, Value.bool.injEq, List.map_cons, List.map_nil, forall_const, Nat.reduceLT, Nat.lt_add_one, imp_self, true_and, and_true, and_self, ob_some, get_mk, lk_cons, ↓reduceIte, Nat.reduceEqDiff, ne_eq, not_true_eq_false, not_false_eq_true, Nat.one_ne_zero, Nat.zero_ne_one, Nat.succ_ne_self, Nat.reduceAdd, Bool.false_eq_true, false_implies, implies_true, reduceCtorEq]
  · have g0 : decide (e = 0) = false := decide_eq_false he
    rw [if_neg he]
    simp -implicitDefEqProofs only [go_sem, g0, rdO]
    refine sub_mk [] rfl rfl rfl ?_
    simp only [tmSub, hpSub, objSub, eqTm, eqHp, rn, lk, SV.ren, SV.renC, SV.renB, SV.renA, ren_ints, ren_strs, ren_pl, ren_svs, SV.v.injEq, Value.int.injEq, Body.ints.injEq, SV.ptr.injEq, SV.sl.injEq, Value.string.injEq, Value.bool.injEq, List.map_cons, List.map_nil, forall_const, Nat.reduceLT, Nat.lt_add_one, imp_self, true_and, and_true, and_self, ob_some, get_mk, lk_cons, ↓reduceIte, Nat.reduceEqDiff, ne_eq, not_true_eq_false, not_false_eq_true, Nat.one_ne_zero, Nat.zero_ne_one, Nat.succ_ne_self, Nat.reduceAdd, Bool.false_eq_true, false_implies, implies_true, reduceCtorEq]
theorem failSp {s : ByteArray} {e f : Int} {i : Nat} (hg : H.get i = some (rdO s e)) (hi : 0 < i ∧ i < 1000) :
    SpecAt Tryz.prog nRFail [.ptr i 0, .v (.int .i64 f)] H n (.tup []) ⟨(i, some (rdO s (failE e f))) :: H.l, H.x⟩ n := by
  have := lift (n := n) (okT.spec tRFail (failW (x := H.x) (s := s) (e := e) (f := f))) [(1, i)] rfl rfl rfl (by omega) rfl rfl
    ⟨sub_wr rfl hi.1 hi.2 hg rfl, trivial⟩ (by simp [apartB, apart1, rn, lk]) (by simp [wrNZ, rn, lk]; omega) (by omega)
  exact this
variable {H : Hp} {n : Nat} {x : Nat → Option SO}
theorem eight_ok {s : ByteArray} {e : Int} : numOK (rawT s (preE s e) 8) := by
  unfold rawT
  by_cases h : preE s e ≠ 0 ∨ s.size < 8
  · rw [if_pos h]; exact .inl (by decide)
  · rw [if_neg h]
    have h1 : preE s e = 0 := by
      by_cases h0 : preE s e = 0
      · exact h0
      · exact absurd (.inl h0) h
    have h2 : 8 ≤ s.size := by omega
    have h3 : (nbs s).getD 0 0 < 128 := by
      unfold preE at h1
      split at h1
      · omega
      · rename_i hn
        by_cases h4 : 128 ≤ (nbs s).getD 0 0
        · exact absurd ⟨h1, h2, h4⟩ hn
        · omega
    refine .inr ⟨by rw [ByteArray.size_extract]; omega, ?_⟩
    have e1 : nbs (s.extract 0 8) = (nbs s).take 8 := by
      unfold nbs; simp [ByteArray.data_extract, List.extract_eq_take_drop, List.map_take]
    rw [e1, List.getD_eq_getElem?_getD, List.getElem?_take, if_pos (by decide), ← List.getD_eq_getElem?_getD]; exact h3
theorem eightSp {s : ByteArray} {e : Int} {i : Nat} (hg : H.get i = some (rdO s e)) (hi : 0 < i ∧ i < 1000) :
    SpecAt Tryz.prog nREight [.ptr i 0] H n (.v (.int .i64 (num (rawT s (preE s e) 8) : Nat))) ⟨(i, some (rdO (rawS s (preE s e) 8) (rawE s (preE s e) 8))) :: H.l, H.x⟩ n := by
  have := lift (n := n) (okT.spec tREight (args := [.ptr 1 0]) (H := ⟨[(1, some (rdO s e))], H.x⟩) (n := 2) (v := .v (.int .i64 (num (rawT s (preE s e) 8) : Nat))) (H' := ⟨[(1, some (rdO (rawS s (preE s e) 8) (rawE s (preE s e) 8)))], H.x⟩) (n' := 2) (by
    have hok := eight_ok (s := s) (e := e)
    unfold mREight
    simp -implicitDefEqProofs only [↓fnVC, initTm]
    simp -implicitDefEqProofs only [go_sem]
    refine at_call tRLeft (leftS (i := 1) (by rfl)) ?_
    by_cases h8 : 8 ≤ s.size
    · have g0 : decide ((s.size : Int) ≥ 8) = true := decide_eq_true (by omega)
      have hb := bts_getD (t := s) (j := 0) (by omega)
      by_cases h128 : 128 ≤ (nbs s).getD 0 0
      · have g1 : decide ((((nbs s).getD 0 0 : Nat) : Int) > 127) = true := decide_eq_true (by omega)
        have hE : failE e 3 = preE s e := by
          unfold failE preE
          by_cases h0 : e = 0
          · rw [if_pos h0, if_pos ⟨h0, h8, h128⟩]
          · rw [if_neg h0, if_neg (fun h => h0 h.1)]
        simp -implicitDefEqProofs only [go_sem, g0, rdO, hb, g1]
        refine ⟨by omega, ?_⟩
        refine at_call tRFail (failSp (i := 1) (s := s) (e := e) (f := 3) (by rfl) (by decide)) ?_
        rw [hE]
        simp -implicitDefEqProofs only [go_sem]
        refine at_call tRNumber (numSp (i := 1) (k := 8) (s := s) (e := preE s e) (by rfl) (by decide) (by decide) hok) ?_
        simp -implicitDefEqProofs only [go_sem]
        refine sub_mk [] rfl rfl rfl ?_
        simp only [tmSub, hpSub, objSub, eqTm, eqHp, rn, lk, SV.ren, SV.renC, SV.renB, SV.renA, ren_ints, ren_strs, ren_pl, ren_svs, SV.v.injEq, Value.int.injEq, Body.ints.injEq, SV.ptr.injEq, SV.sl.injEq, Value.string.injEq, Value.bool.injEq, List.map_cons, List.map_nil, forall_const, Nat.reduceLT, Nat.lt_add_one, imp_self, true_and, and_true, and_self, ob_some, get_mk, lk_cons, ↓reduceIte, Nat.reduceEqDiff, ne_eq, not_true_eq_false, not_false_eq_true, Nat.one_ne_zero, Nat.zero_ne_one, Nat.succ_ne_self, Nat.reduceAdd, Bool.false_eq_true, false_implies, implies_true, reduceCtorEq]
        rfl
      · have g1 : decide ((((nbs s).getD 0 0 : Nat) : Int) > 127) = false := decide_eq_false (by omega)
        have hE : preE s e = e := by unfold preE; rw [if_neg (fun h => h128 h.2.2)]
        rw [hE] at hok ⊢
        simp -implicitDefEqProofs only [go_sem, g0, rdO, hb, g1]
        refine ⟨by omega, ?_⟩
        refine at_call tRNumber (numSp (i := 1) (k := 8) (s := s) (e := e) (by rfl) (by decide) (by decide) hok) ?_
        simp -implicitDefEqProofs only [go_sem]
        refine sub_mk [] rfl rfl rfl ?_
        simp only [tmSub, hpSub, objSub, eqTm, eqHp, rn, lk, SV.ren, SV.renC, SV.renB, SV.renA, ren_ints, ren_strs, ren_pl, ren_svs, SV.v.injEq, Value.int.injEq, Body.ints.injEq, SV.ptr.injEq, SV.sl.injEq, Value.string.injEq, Value.bool.injEq, List.map_cons, List.map_nil, forall_const, Nat.reduceLT, Nat.lt_add_one, imp_self, true_and, and_true, and_self, ob_some, get_mk, lk_cons, ↓reduceIte, Nat.reduceEqDiff, ne_eq, not_true_eq_false, not_false_eq_true, Nat.one_ne_zero, Nat.zero_ne_one, Nat.succ_ne_self, Nat.reduceAdd, Bool.false_eq_true, false_implies, implies_true, reduceCtorEq, rdO]
    · have g0 : decide ((s.size : Int) ≥ 8) = false := decide_eq_false (by omega)
      have hE : preE s e = e := by unfold preE; rw [if_neg (fun h => h8 h.2.1)]
      rw [hE] at hok ⊢
      simp -implicitDefEqProofs only [go_sem, g0]
      refine at_call tRNumber (numSp (i := 1) (k := 8) (by rfl) (by decide) (by decide) hok) ?_
      simp -implicitDefEqProofs only [go_sem]
      refine sub_mk [] rfl rfl rfl ?_
      simp only [tmSub, hpSub, objSub, eqTm, eqHp, rn, lk, SV.ren, SV.renC, SV.renB, SV.renA, ren_ints, ren_strs, ren_pl, ren_svs, SV.v.injEq, Value.int.injEq, Body.ints.injEq, SV.ptr.injEq, SV.sl.injEq, Value.string.injEq, Value.bool.injEq, List.map_cons, List.map_nil, forall_const, Nat.reduceLT, Nat.lt_add_one, imp_self, true_and, and_true, and_self, ob_some, get_mk, lk_cons, ↓reduceIte, Nat.reduceEqDiff, ne_eq, not_true_eq_false, not_false_eq_true, Nat.one_ne_zero, Nat.zero_ne_one, Nat.succ_ne_self, Nat.reduceAdd, Bool.false_eq_true, false_implies, implies_true, reduceCtorEq]
      rfl)) [(1, i)] rfl rfl rfl (by omega) rfl rfl
    ⟨sub_wr rfl hi.1 hi.2 hg rfl, trivial⟩ (by simp [apartB, apart1, rn, lk]) (by simp [wrNZ, rn, lk]; omega) (by omega)
  exact this
end
section
/- Trees, at this program. -/
set_option linter.unusedVariables false
set_option linter.unusedSimpArgs false
set_option maxRecDepth 100000
open Go.Proofs
variable {H : Hp} {n : Nat} {x : Nat → Option SO}
variable {H : Hp} {n : Nat} {x : Nat → Option SO}
variable {H : Hp} {n : Nat} {x : Nat → Option SO}
variable {H : Hp} {n : Nat} {x : Nat → Option SO}
variable {H : Hp} {n : Nat} {x : Nat → Option SO}
variable {H : Hp} {n : Nat} {x : Nat → Option SO}
variable {H : Hp} {n : Nat} {x : Nat → Option SO}
end
section
/- Packing: the document's writer, numbers and texts. -/
set_option linter.unusedVariables false
set_option linter.unusedSimpArgs false
set_option maxRecDepth 100000
open Go.Proofs
variable {H : Hp} {n : Nat} {x : Nat → Option SO}
end
section
/- A device, at this program. -/
set_option linter.unusedVariables false
set_option linter.unusedSimpArgs false
set_option maxRecDepth 100000
open Go.Proofs
variable {P : Program} {C : Tab} {H : Hp} {n : Nat} {x : Nat → Option SO}
theorem flat_len {α : Type} {z : Nat} : ∀ {l : List (List α)}, (∀ s ∈ l, s.length = z) → l.flatten.length = l.length * z
  | [], _ => by simp
  | s :: l, h => by
    rw [List.flatten_cons, List.length_append, h s (List.mem_cons_self ..), flat_len (l := l) (fun t ht => h t (List.mem_cons_of_mem _ ht)), List.length_cons, Nat.succ_mul, Nat.add_comm]
theorem flat_drop {α : Type} {z : Nat} : ∀ {l : List (List α)} (j : Nat), (∀ s ∈ l, s.length = z) → l.flatten.drop (j * z) = (l.drop j).flatten
  | [], j, _ => by simp
  | s :: l, 0, h => by simp
  | s :: l, j + 1, h => by
    rw [List.flatten_cons, show (j + 1) * z = s.length + j * z by rw [h s (List.mem_cons_self ..), Nat.succ_mul, Nat.add_comm], ← List.drop_drop, List.drop_left, List.drop_succ_cons]
    exact flat_drop j (fun t ht => h t (List.mem_cons_of_mem _ ht))
theorem flat_take {α : Type} {z : Nat} {l : List (List α)} {j : Nat} (h : ∀ s ∈ l, s.length = z) (hj : j < l.length) : (l.flatten.drop (j * z)).take z = l.getD j [] := by
  rw [flat_drop j h, List.drop_eq_getElem_cons hj, List.flatten_cons, List.take_append_of_le_length (by rw [h _ (List.getElem_mem hj)]; exact Nat.le_refl _), List.take_of_length_le (by rw [h _ (List.getElem_mem hj)]; exact Nat.le_refl _), List.getD_eq_getElem?_getD, List.getElem?_eq_getElem hj]; rfl
theorem flat_firsts {α : Type} {z : Nat} {l : List (List α)} {j : Nat} (h : ∀ s ∈ l, s.length = z) (hj : j ≤ l.length) : l.flatten.take (j * z) = (l.take j).flatten := by
  have e : l.flatten = (l.take j).flatten ++ (l.drop j).flatten := by rw [← List.flatten_append, List.take_append_drop]
  have hlen : (l.take j).flatten.length = j * z := by
    rw [flat_len (fun s hs => h s (List.mem_of_mem_take hs)), List.length_take, Nat.min_eq_left hj]
  rw [e, List.take_append_of_le_length (by omega), List.take_of_length_le (by omega)]
theorem flat_set {α : Type} {z : Nat} {l : List (List α)} {j : Nat} {s : List α} (h : ∀ s ∈ l, s.length = z) (hj : j < l.length) (hs : s.length = z) : splice l.flatten (j * z) s = (l.set j s).flatten := by
  unfold splice
  rw [flat_firsts h (by omega), hs, show j * z + z = (j + 1) * z by rw [Nat.succ_mul], flat_drop (j + 1) h, List.set_eq_take_append_cons_drop, if_pos hj, List.flatten_append, List.flatten_cons, List.append_assoc]
theorem set_all {α : Type} {z : Nat} {l : List (List α)} {j : Nat} {s : List α} (h : ∀ s ∈ l, s.length = z) (hs : s.length = z) : ∀ t ∈ l.set j s, t.length = z := by
  intro t ht
  rcases List.mem_or_eq_of_mem_set ht with h1 | h1
  · exact h t h1
  · rw [h1]; exact hs
theorem getD_len {α : Type} {z : Nat} {l : List (List α)} {j : Nat} (h : ∀ s ∈ l, s.length = z) (hj : j < l.length) : (l.getD j []).length = z := by
  rw [List.getD_eq_getElem?_getD, List.getElem?_eq_getElem hj]; exact h _ (List.getElem_mem hj)
def pad64 (ys : List Int) : List Int := ys ++ List.replicate (64 - ys.length) 0
theorem pad64_len {ys : List Int} (h : ys.length ≤ 64) : (pad64 ys).length = 64 := by simp [pad64]; omega
structure Fd where
  seen : List (List Int)
  safe : List (List Int)
  pend : List (Nat × List Int)
  st : Int
  fa : Int
  off : Bool
structure Fd.ok (d : Fd) : Prop where
  seen : ∀ s ∈ d.seen, s.length = 64
  safe : ∀ s ∈ d.safe, s.length = 64
  len : d.safe.length = d.seen.length
  most : d.seen.length ≤ 4096
  pend : ∀ w ∈ d.pend, w.1 < d.seen.length ∧ w.2.length = 64
  few : d.pend.length ≤ 1000000000
  st0 : 0 ≤ d.st
  st1 : d.st ≤ 1000000000000
  fa0 : 0 ≤ d.fa
  fa1 : d.fa ≤ 9223372036854775807
def wcell (w : Nat × List Int) : List Value := .int .i64 w.1 :: w.2.map (Value.int .u8)
def prow (ws : List (Nat × List Int)) : List Value := (ws.map wcell).flatten
def devB (d : Fd) (a b c : Nat) : Body := .sv [.sl a 0 d.seen.length 64, .sl b 0 d.seen.length 64, .sl c 0 d.pend.length 65, .v (.int .i64 d.st), .v (.int .i64 d.fa), .v (.bool d.off)]
def secB (l : List (List Int)) : Body := .ints .u8 l.flatten
theorem wcell_len {w : Nat × List Int} (h : w.2.length = 64) : (wcell w).length = 65 := by simp [wcell, h]
theorem prow_len {ws : List (Nat × List Int)} (h : ∀ w ∈ ws, w.2.length = 64) : (prow ws).length = ws.length * 65 := by
  unfold prow
  rw [flat_len (z := 65), List.length_map]
  intro s hs
  rw [List.mem_map] at hs
  obtain ⟨w, hw, rfl⟩ := hs
  exact wcell_len (h w hw)
theorem prow_at {ws : List (Nat × List Int)} {j : Nat} (h : ∀ w ∈ ws, w.2.length = 64) (hj : j < ws.length) : ((prow ws).drop (j * 65)).take 65 = wcell (ws.getD j (0, [])) := by
  unfold prow
  rw [flat_take (fun s hs => by
    rw [List.mem_map] at hs
    obtain ⟨w, hw, rfl⟩ := hs
    exact wcell_len (h w hw)) (by simpa using hj)]
  rw [List.getD_eq_getElem?_getD, List.getElem?_map, List.getD_eq_getElem?_getD, List.getElem?_eq_getElem hj]; rfl
theorem prow_app (l m : List (Nat × List Int)) : prow (l ++ m) = prow l ++ prow m := by simp [prow]
theorem ones_wcell (w : Nat × List Int) : (wcell w).all (·.oneCell') = true := by
  simp [wcell, Value.oneCell']
def stepD (d : Fd) : Fd := if d.fa = 1 then { d with fa := 0, off := true } else { d with fa := if 0 < d.fa then d.fa - 1 else d.fa, st := d.st + 1 }
variable {H : Hp} {n : Nat} {x : Nat → Option SO}
abbrev C3 : Tab := CS Tryz.prog
theorem mix3 : Tryz.prog.follows .mixedOrders = true := Checked.mixed Tryz.checked
def hp3 (d : Fd) (x : Nat → Option SO) : Hp := ⟨[(1, some ⟨true, devB d 2 3 4⟩), (2, some ⟨true, secB d.seen⟩), (3, some ⟨true, secB d.safe⟩), (4, some ⟨true, .pl (prow d.pend)⟩)], x⟩
theorem pls_new {k : Nat} : plsOf (splice zws 0 [.v (.int .i64 (k : Int))]) = some (wcell (k, zi 64)) := rfl
theorem new_wr {k : Nat} : splice zw 0 (wcell (k, zi 64)) = wcell (k, zi 64) := rfl
theorem wz_len {k : Nat} : (wcell (k, zi 64)).length = 65 := rfl
theorem wr_copy {k : Nat} {s : ByteArray} (hs : s.size ≤ 64) : splice (wcell (k, zi 64)) 1 (((bts s).take (min s.size 64)).map (Value.int .u8)) = wcell (k, pad64 (bts s)) := by
  have hl := bts_length s
  rw [List.take_of_length_le (by omega)]
  unfold wcell
  rw [splice_succ, splice_zero]
  simp only [zi, pad64, List.length_map, hl, ← List.map_drop, List.drop_replicate, List.map_append]
theorem wcell_tl {w : Nat × List Int} : (wcell w).drop 1 = w.2.map (Value.int .u8) := rfl
theorem wF11 {d : Fd} {k : Nat} {s : ByteArray} (hd : d.ok) (hk : k < d.seen.length) (hs : s.size ≤ 64) (hoff : d.off = false) (hfa : d.fa ≠ 1) :
    fnVC C3 mFWrite [.ptr 1 0, .v (.int .i64 k), .v (.string s)] (hp3 d x) 5 fun v H' n' => Sub 5 ⟨[(0, .v (.int .i64 0))],
      ⟨[(1, some ⟨true, devB { stepD d with seen := d.seen.set k (pad64 (bts s)), pend := d.pend ++ [(k, pad64 (bts s))] } 2 3 5⟩), (2, some ⟨true, secB (d.seen.set k (pad64 (bts s)))⟩), (3, some ⟨true, secB d.safe⟩), (4, none), (5, some ⟨true, .pl (prow (d.pend ++ [(k, pad64 (bts s))]))⟩)], x⟩, 6⟩ ⟨[(0, v)], H', n'⟩ := by
  obtain ⟨h1, h2, h3, h4, h5, h6, h7, h8, h9, h10⟩ := hd
  have e1 : decide ((k : Int) < 0) = false := decide_eq_false (by omega)
  have e2 : decide ((k : Int) ≥ (d.seen.length : Int)) = false := decide_eq_false (by omega)
  have e3 : decide ((s.size : Int) > 64) = false := decide_eq_false (by omega)
  have hl := bts_length s
  have hp := pad64_len (ys := bts s) (by omega)
  have r1 := wr_copy (k := k) hs
  have r2 : (wcell (k, pad64 (bts s))).length = 65 := wcell_len hp
  have r3 : List.take 65 (wcell (k, pad64 (bts s))) = wcell (k, pad64 (bts s)) := List.take_of_length_le (by omega)
  have r4 := prow_len (ws := d.pend) (fun w hw => (h5 w hw).2)
  have r5 : List.take (d.pend.length * 65) (prow d.pend) = prow d.pend := List.take_of_length_le (by omega)
  have r6 : List.take 64 ((pad64 (bts s)).map (Value.int .u8)) = (pad64 (bts s)).map (Value.int .u8) := List.take_of_length_le (by simp; omega)
  have r7 := flat_set (s := pad64 (bts s)) h1 hk hp
  have r8 : ∀ w, prow [w] = wcell w := fun w => by simp [prow]
  have r9 := flat_len h1
  unfold hp3 devB secB mFWrite
  rw [hoff]
  simp -implicitDefEqProofs only [↓fnVC, initTm]
  simp -implicitDefEqProofs only [go_sem]
  refine in_call mix3 tFat ?_
  unfold mFat
  simp -implicitDefEqProofs only [↓fnVC, initTm]
  simp -implicitDefEqProofs only [go_sem, e1]
  refine in_call mix3 tFSectors ?_
  unfold mFSectors
  simp -implicitDefEqProofs only [↓fnVC, initTm]
  simp -implicitDefEqProofs only [go_sem, e1, e2, e3]
  refine in_call mix3 tFstep ?_
  unfold mFstep
  simp -implicitDefEqProofs only [↓fnVC, initTm]
  simp -implicitDefEqProofs only [go_sem]
  refine condK_bb (fun e4 => ?_) (fun e4 => ?_)
  · simp -implicitDefEqProofs only [go_sem, e4]
    have e5 : decide (IntKind.i64.wrap (d.fa - 1) = 0) = false := decide_eq_false (by rw [wrap_i64 (by omega) (by omega)]; omega)
    have q1 : (stepD d).st = IntKind.i64.wrap (d.st + 1) := by rw [wrap_i64 (by omega) (by omega)]; simp [stepD, hfa]
    have q2 : (stepD d).fa = IntKind.i64.wrap (d.fa - 1) := by rw [wrap_i64 (by omega) (by omega)]; simp only [decide_eq_true_eq] at e4; simp [stepD, hfa]; intro; omega
    have q3 : (stepD d).off = false := by simp [stepD, hfa, hoff]
    simp -implicitDefEqProofs only [go_sem, e5, pls_new, new_wr, wz_len, ones_wcell, r1, r2, r3, r4, r5, r6, r7, wcell_tl, List.length_map, hp]
    refine ⟨by omega, by rw [List.length_take]; omega, by omega, by omega, by omega, by omega, sub_mk [(5, 7)] rfl rfl rfl ?_⟩
    simp only [tmSub, hpSub, objSub, eqTm, eqHp, rn, lk, SV.ren, SV.renC, SV.renB, SV.renA, ren_ints, ren_strs, ren_pl, ren_svs, SV.v.injEq, Value.int.injEq, Body.ints.injEq, SV.ptr.injEq, SV.sl.injEq, Value.string.injEq, Value.bool.injEq, List.map_cons, List.map_nil, forall_const, Nat.reduceLT, Nat.lt_add_one, imp_self, true_and, and_true, and_self, ob_some, get_mk, lk_cons, ↓reduceIte, Nat.reduceEqDiff, ne_eq, not_true_eq_false, not_false_eq_true, Nat.one_ne_zero, Nat.zero_ne_one, Nat.succ_ne_self, Nat.reduceAdd, Bool.false_eq_true, false_implies, implies_true, reduceCtorEq, q1, q2, q3, List.length_set, List.length_append, List.length_cons, List.length_nil, prow_app, r8]
  · simp -implicitDefEqProofs only [go_sem, e4, pls_new, new_wr, wz_len, ones_wcell, r1, r2, r3, r4, r5, r6, r7, wcell_tl, List.length_map, hp]
    have q1 : (stepD d).st = IntKind.i64.wrap (d.st + 1) := by rw [wrap_i64 (by omega) (by omega)]; simp [stepD, hfa]
    have q2 : (stepD d).fa = d.fa := by simp only [decide_eq_false_iff_not] at e4; simp [stepD, hfa]; intro; omega
    have q3 : (stepD d).off = false := by simp [stepD, hfa, hoff]
    refine ⟨by omega, by rw [List.length_take]; omega, by omega, by omega, by omega, by omega, sub_mk [(5, 7)] rfl rfl rfl ?_⟩
    simp only [tmSub, hpSub, objSub, eqTm, eqHp, rn, lk, SV.ren, SV.renC, SV.renB, SV.renA, ren_ints, ren_strs, ren_pl, ren_svs, SV.v.injEq, Value.int.injEq, Body.ints.injEq, SV.ptr.injEq, SV.sl.injEq, Value.string.injEq, Value.bool.injEq, List.map_cons, List.map_nil, forall_const, Nat.reduceLT, Nat.lt_add_one, imp_self, true_and, and_true, and_self, ob_some, get_mk, lk_cons, ↓reduceIte, Nat.reduceEqDiff, ne_eq, not_true_eq_false, not_false_eq_true, Nat.one_ne_zero, Nat.zero_ne_one, Nat.succ_ne_self, Nat.reduceAdd, Bool.false_eq_true, false_implies, implies_true, reduceCtorEq, q1, q2, q3, List.length_set, List.length_append, List.length_cons, List.length_nil, prow_app, r8]
def hp3r (d : Fd) (x : Nat → Option SO) : Hp := ⟨[(1, some ⟨true, devB d 2 3 4⟩), (2, some ⟨false, secB d.seen⟩), (3, some ⟨false, secB d.safe⟩), (4, some ⟨false, .pl (prow d.pend)⟩)], x⟩
def wrNo (d : Fd) (k : Int) (s : ByteArray) : Option (Int × Fd) :=
  if d.off then some (7, d) else if k < 0 ∨ (d.seen.length : Int) ≤ k then some (1, d) else if 64 < s.size then some (1, d) else if d.fa = 1 then some (7, stepD d) else none
theorem wF11n {d d' : Fd} {k e : Int} {s : ByteArray} (hd : d.ok) (hn : wrNo d k s = some (e, d')) :
    fnVC C3 mFWrite [.ptr 1 0, .v (.int .i64 k), .v (.string s)] (hp3r d x) 5 fun v H' n' => Sub 5 ⟨[(0, .v (.int .i64 e))], hp3r d' x, 5⟩ ⟨[(0, v)], H', n'⟩ := by
  obtain ⟨h1, h2, h3, h4, h5, h6, h7, h8, h9, h10⟩ := hd
  unfold wrNo at hn
  unfold hp3r devB secB mFWrite
  simp -implicitDefEqProofs only [↓fnVC, initTm]
  simp -implicitDefEqProofs only [go_sem]
  refine in_call mix3 tFat ?_
  unfold mFat
  simp -implicitDefEqProofs only [↓fnVC, initTm]
  cases hoff : d.off with
  | true =>
    rw [hoff, if_pos rfl] at hn
    cases hn
    simp -implicitDefEqProofs only [go_sem, hoff]
    refine sub_mk [] rfl rfl rfl ?_
    simp only [tmSub, hpSub, objSub, eqTm, eqHp, rn, lk, SV.ren, SV.renC, SV.renB, SV.renA, ren_ints, ren_strs, ren_pl, ren_svs, SV.v.injEq, Value.int.injEq, Body.ints.injEq, SV.ptr.injEq, SV.sl.injEq, Value.string.injEq, Value.bool.injEq, List.map_cons, List.map_nil, forall_const, Nat.reduceLT, Nat.lt_add_one, imp_self, true_and, and_true, and_self, ob_some, get_mk, lk_cons, ↓reduceIte, Nat.reduceEqDiff, ne_eq, not_true_eq_false, not_false_eq_true, Nat.one_ne_zero, Nat.zero_ne_one, Nat.succ_ne_self, Nat.reduceAdd, Bool.false_eq_true, false_implies, implies_true, reduceCtorEq, hoff]
  | false =>
    rw [hoff, if_neg (by simp)] at hn
    simp -implicitDefEqProofs only [go_sem, hoff]
    by_cases c1 : k < 0
    · rw [if_pos (.inl c1)] at hn
      cases hn
      have e1 : decide (k < 0) = true := decide_eq_true c1
      simp -implicitDefEqProofs only [go_sem, e1]
      refine sub_mk [] rfl rfl rfl ?_
      simp only [tmSub, hpSub, objSub, eqTm, eqHp, rn, lk, SV.ren, SV.renC, SV.renB, SV.renA, ren_ints, ren_strs, ren_pl, ren_svs, SV.v.injEq, Value.int.injEq, Body.ints.injEq, SV.ptr.injEq, SV.sl.injEq, Value.string.injEq, Value.bool.injEq, List.map_cons, List.map_nil, forall_const, Nat.reduceLT, Nat.lt_add_one, imp_self, true_and, and_true, and_self, ob_some, get_mk, lk_cons, ↓reduceIte, Nat.reduceEqDiff, ne_eq, not_true_eq_false, not_false_eq_true, Nat.one_ne_zero, Nat.zero_ne_one, Nat.succ_ne_self, Nat.reduceAdd, Bool.false_eq_true, false_implies, implies_true, reduceCtorEq, hoff]
    have e1 : decide (k < 0) = false := decide_eq_false c1
    simp -implicitDefEqProofs only [go_sem, e1]
    refine in_call mix3 tFSectors ?_
    unfold mFSectors
    simp -implicitDefEqProofs only [↓fnVC, initTm]
    by_cases c2 : (d.seen.length : Int) ≤ k
    · rw [if_pos (.inr c2)] at hn
      cases hn
      have e2 : decide (k ≥ (d.seen.length : Int)) = true := decide_eq_true c2
      simp -implicitDefEqProofs only [go_sem, e1, e2]
      refine sub_mk [] rfl rfl rfl ?_
      simp only [tmSub, hpSub, objSub, eqTm, eqHp, rn, lk, SV.ren, SV.renC, SV.renB, SV.renA, ren_ints, ren_strs, ren_pl, ren_svs, SV.v.injEq, Value.int.injEq, Body.ints.injEq, SV.ptr.injEq, SV.sl.injEq, Value.string.injEq, Value.bool.injEq, List.map_cons, List.map_nil, forall_const, Nat.reduceLT, Nat.lt_add_one, imp_self, true_and, and_true, and_self, ob_some, get_mk, lk_cons, ↓reduceIte, Nat.reduceEqDiff, ne_eq, not_true_eq_false, not_false_eq_true, Nat.one_ne_zero, Nat.zero_ne_one, Nat.succ_ne_self, Nat.reduceAdd, Bool.false_eq_true, false_implies, implies_true, reduceCtorEq, hoff]
    rw [if_neg (fun h => h.elim c1 c2)] at hn
    have e2 : decide (k ≥ (d.seen.length : Int)) = false := decide_eq_false c2
    simp -implicitDefEqProofs only [go_sem, e1, e2]
    by_cases c3 : 64 < s.size
    · rw [if_pos c3] at hn
      cases hn
      have e3 : decide ((s.size : Int) > 64) = true := decide_eq_true (by omega)
      simp -implicitDefEqProofs only [go_sem, e3]
      refine sub_mk [] rfl rfl rfl ?_
      simp only [tmSub, hpSub, objSub, eqTm, eqHp, rn, lk, SV.ren, SV.renC, SV.renB, SV.renA, ren_ints, ren_strs, ren_pl, ren_svs, SV.v.injEq, Value.int.injEq, Body.ints.injEq, SV.ptr.injEq, SV.sl.injEq, Value.string.injEq, Value.bool.injEq, List.map_cons, List.map_nil, forall_const, Nat.reduceLT, Nat.lt_add_one, imp_self, true_and, and_true, and_self, ob_some, get_mk, lk_cons, ↓reduceIte, Nat.reduceEqDiff, ne_eq, not_true_eq_false, not_false_eq_true, Nat.one_ne_zero, Nat.zero_ne_one, Nat.succ_ne_self, Nat.reduceAdd, Bool.false_eq_true, false_implies, implies_true, reduceCtorEq, hoff]
    rw [if_neg c3] at hn
    have e3 : decide ((s.size : Int) > 64) = false := decide_eq_false (by omega)
    simp -implicitDefEqProofs only [go_sem, e3]
    split at hn
    · rename_i c4
      cases hn
      refine in_call mix3 tFstep ?_
      unfold mFstep
      simp -implicitDefEqProofs only [↓fnVC, initTm]
      have e4 : decide ((1 : Int) > 0) = true := rfl
      have e5 : decide (IntKind.i64.wrap (1 - 1) = 0) = true := rfl
      have q1 : (stepD d).st = d.st := by simp [stepD, c4]
      have q2 : (stepD d).fa = IntKind.i64.wrap (1 - 1) := by simp [stepD, c4]; rfl
      have q3 : (stepD d).off = true := by simp [stepD, c4]
      have q4 : (stepD d).seen = d.seen := by simp [stepD, c4]
      have q5 : (stepD d).safe = d.safe := by simp [stepD, c4]
      have q6 : (stepD d).pend = d.pend := by simp [stepD, c4]
      simp -implicitDefEqProofs only [go_sem, c4, e4, e5]
      refine sub_mk [] rfl rfl rfl ?_
      simp only [tmSub, hpSub, objSub, eqTm, eqHp, rn, lk, SV.ren, SV.renC, SV.renB, SV.renA, ren_ints, ren_strs, ren_pl, ren_svs, SV.v.injEq, Value.int.injEq, Body.ints.injEq, SV.ptr.injEq, SV.sl.injEq, Value.string.injEq, Value.bool.injEq, List.map_cons, List.map_nil, forall_const, Nat.reduceLT, Nat.lt_add_one, imp_self, true_and, and_true, and_self, ob_some, get_mk, lk_cons, ↓reduceIte, Nat.reduceEqDiff, ne_eq, not_true_eq_false, not_false_eq_true, Nat.one_ne_zero, Nat.zero_ne_one, Nat.succ_ne_self, Nat.reduceAdd, Bool.false_eq_true, false_implies, implies_true, reduceCtorEq, q1, q2, q3, q4, q5, q6]
    · cases hn
variable {H : Hp} {n : Nat} {x : Nat → Option SO}
def setl (S : List (List Int)) (ws : List (Nat × List Int)) : List (List Int) := ws.foldl (fun S w => S.set w.1 w.2) S
theorem setl_succ {S : List (List Int)} {ws : List (Nat × List Int)} {t : Nat} (h : t < ws.length) : setl S (ws.take (t + 1)) = (setl S (ws.take t)).set (ws.getD t (0, [])).1 (ws.getD t (0, [])).2 := by
  unfold setl
  rw [List.take_add_one, List.foldl_append, List.getElem?_eq_getElem h, List.getD_eq_getElem?_getD, List.getElem?_eq_getElem h]; rfl
theorem setl_len : ∀ {ws : List (Nat × List Int)} {S : List (List Int)}, (setl S ws).length = S.length
  | [], S => rfl
  | w :: ws, S => by
    show (setl (S.set w.1 w.2) ws).length = _
    rw [setl_len, List.length_set]
theorem setl_all : ∀ {ws : List (Nat × List Int)} {S : List (List Int)}, (∀ w ∈ ws, w.2.length = 64) → (∀ s ∈ S, s.length = 64) → ∀ s ∈ setl S ws, s.length = 64
  | [], S, _, h => h
  | w :: ws, S, hw, h => by
    show ∀ s ∈ setl (S.set w.1 w.2) ws, _
    exact setl_all (fun w' hw' => hw w' (List.mem_cons_of_mem _ hw')) (set_all h (hw w (List.mem_cons_self ..)))
def hp3b (d : Fd) (c : Nat) (ws : List (Nat × List Int)) (x : Nat → Option SO) : Hp := ⟨[(1, some ⟨true, devB d 2 3 c⟩), (2, some ⟨true, secB d.seen⟩), (3, some ⟨true, secB d.safe⟩), (4, some ⟨false, .pl (prow ws)⟩)], x⟩
theorem wcell_hd {w : Nat × List Int} : (wcell w)[0]? = some (.int .i64 w.1) := rfl
theorem zw_all {w : Nat × List Int} (h : w.2.length = 64) : splice zw 0 (wcell w) = wcell w := by
  rw [splice_zero, wcell_len h]
  have : zw.drop 65 = [] := rfl
  rw [this, List.append_nil]
theorem wF12 {d : Fd} (hd : d.ok) (hoff : d.off = false) (hfa : d.fa ≠ 1) :
    fnVC C3 mFBarrier [.ptr 1 0] (hp3b d 4 d.pend x) 5 fun v H' n' => Sub 5 ⟨[(0, .v (.int .i64 0))], ⟨[(1, some ⟨true, devB { stepD d with safe := setl d.safe d.pend, pend := [] } 2 3 5⟩), (2, some ⟨true, secB d.seen⟩), (3, some ⟨true, secB (setl d.safe d.pend)⟩), (4, some ⟨false, .pl (prow d.pend)⟩), (5, some ⟨true, .pl []⟩)], x⟩, 6⟩ ⟨[(0, v)], H', n'⟩ := by
  have hd' := hd
  obtain ⟨h1, h2, h3, h4, h5, h6, h7, h8, h9, h10⟩ := hd
  have q1 : (stepD d).st = IntKind.i64.wrap (d.st + 1) := by rw [wrap_i64 (by omega) (by omega)]; simp [stepD, hfa]
  have q3 : (stepD d).off = false := by simp [stepD, hfa, hoff]
  have q4 : (stepD d).seen = d.seen := by simp [stepD, hfa]
  have hrow := fun t (h : t < d.pend.length) => prow_at (j := t) (fun w hw => (h5 w hw).2) h
  have hplen := prow_len (ws := d.pend) (fun w hw => (h5 w hw).2)
  unfold hp3b devB secB mFBarrier
  simp -implicitDefEqProofs only [↓fnVC, initTm]
  simp -implicitDefEqProofs only [go_sem, hoff]
  refine in_call mix3 tFstep ?_
  unfold mFstep
  simp -implicitDefEqProofs only [↓fnVC, initTm]
  simp -implicitDefEqProofs only [go_sem]
  refine condK_bb (fun e4 => ?_) (fun e4 => ?_)
  · have e5 : decide (IntKind.i64.wrap (d.fa - 1) = 0) = false := decide_eq_false (by rw [wrap_i64 (by omega) (by omega)]; omega)
    have q2 : (stepD d).fa = IntKind.i64.wrap (d.fa - 1) := by rw [wrap_i64 (by omega) (by omega)]; simp only [decide_eq_true_eq] at e4; simp [stepD, hfa]; intro; omega
    simp -implicitDefEqProofs only [go_sem, e4, e5]
    refine loop_fam (fun t : Nat => t ≤ d.pend.length) (fun t => ⟨[(0, .ptr 1 0), (22, .sl 4 0 d.pend.length 65), (23, .v (.int .i64 d.pend.length)), (24, .v (.int .i64 t))],
      ⟨[(1, some ⟨true, .sv [.sl 2 0 d.seen.length 64, .sl 3 0 d.seen.length 64, .sl 4 0 d.pend.length 65, .v (.int .i64 (IntKind.i64.wrap (d.st + 1))), .v (.int .i64 (IntKind.i64.wrap (d.fa - 1))), .v (.bool false)]⟩), (2, some ⟨true, .ints .u8 d.seen.flatten⟩), (3, some ⟨true, .ints .u8 (setl d.safe (d.pend.take t)).flatten⟩), (4, some ⟨false, .pl (prow d.pend)⟩)], x⟩, 5⟩) (fun t => d.pend.length - t) 0 (by omega) ?_ ?_
    · refine sub0 rfl rfl ?_
      simp only [tmSub, hpSub, objSub, eqTm, eqHp, rn, lk, SV.ren, SV.renC, SV.renB, SV.renA, ren_ints, ren_strs, ren_pl, ren_svs, SV.v.injEq, Value.int.injEq, Body.ints.injEq, SV.ptr.injEq, SV.sl.injEq, Value.string.injEq, Value.bool.injEq, List.map_cons, List.map_nil, forall_const, Nat.reduceLT, Nat.lt_add_one, imp_self, true_and, and_true, and_self, ob_some, get_mk, lk_cons, ↓reduceIte, Nat.reduceEqDiff, ne_eq, not_true_eq_false, not_false_eq_true, Nat.one_ne_zero, Nat.zero_ne_one, Nat.succ_ne_self, Nat.reduceAdd, Bool.false_eq_true, false_implies, implies_true, reduceCtorEq, setl]
      exact ⟨rfl, rfl⟩
    · intro t ht
      simp -implicitDefEqProofs only [go_sem]
      refine condK_bb (fun e6 => ?_) (fun e6 => ?_)
      · have c6 : t < d.pend.length := by simp only [decide_eq_true_eq] at e6; omega
        have hw := h5 (d.pend.getD t (0, [])) (by rw [List.getD_eq_getElem?_getD, List.getElem?_eq_getElem c6]; exact List.getElem_mem c6)
        have p1 := hrow t c6
        have p4 := setl_succ (S := d.safe) c6
        generalize d.pend.getD t (0, []) = w at hw p1 p4
        have p2 := zw_all hw.2
        have p3 := wcell_len hw.2
        have p5 : List.take 64 (w.2.map (Value.int .u8)) = w.2.map (Value.int .u8) := List.take_of_length_le (by simp; omega)
        have p6 := setl_all (ws := d.pend.take t) (S := d.safe) (fun w hw => (h5 w (List.mem_of_mem_take hw)).2) h2
        have p7 : (setl d.safe (d.pend.take t)).length = d.seen.length := by rw [setl_len, h3]
        have p8 := flat_set (s := w.2) p6 (by rw [p7]; exact hw.1) hw.2
        have p9 := flat_len p6
        simp -implicitDefEqProofs only [go_sem, p1, p2, p3, p5, p8, wcell_hd, wcell_tl, ones_wcell, List.length_map, hw.2]
        refine ⟨by omega, by omega, by omega, by omega, kLoop_mk (t + 1) (by omega) (by omega) (sub0 rfl rfl ?_)⟩
        simp only [tmSub, hpSub, objSub, eqTm, eqHp, rn, lk, SV.ren, SV.renC, SV.renB, SV.renA, ren_ints, ren_strs, ren_pl, ren_svs, SV.v.injEq, Value.int.injEq, Body.ints.injEq, SV.ptr.injEq, SV.sl.injEq, Value.string.injEq, Value.bool.injEq, List.map_cons, List.map_nil, forall_const, Nat.reduceLT, Nat.lt_add_one, imp_self, true_and, and_true, and_self, ob_some, get_mk, lk_cons, ↓reduceIte, Nat.reduceEqDiff, ne_eq, not_true_eq_false, not_false_eq_true, Nat.one_ne_zero, Nat.zero_ne_one, Nat.succ_ne_self, Nat.reduceAdd, Bool.false_eq_true, false_implies, implies_true, reduceCtorEq, p4]
        rw [wrap_i64 (by omega) (by omega)]
        exact Int.natCast_add t 1
      · have c6 : d.pend.take t = d.pend := List.take_of_length_le (by simp only [decide_eq_false_iff_not] at e6; omega)
        simp -implicitDefEqProofs only [go_sem, c6]
        refine sub_mk [(5, 0)] rfl rfl rfl ?_
        simp only [tmSub, hpSub, objSub, eqTm, eqHp, rn, lk, SV.ren, SV.renC, SV.renB, SV.renA, ren_ints, ren_strs, ren_pl, ren_svs, SV.v.injEq, Value.int.injEq, Body.ints.injEq, SV.ptr.injEq, SV.sl.injEq, Value.string.injEq, Value.bool.injEq, List.map_cons, List.map_nil, forall_const, Nat.reduceLT, Nat.lt_add_one, imp_self, true_and, and_true, and_self, ob_some, get_mk, lk_cons, ↓reduceIte, Nat.reduceEqDiff, ne_eq, not_true_eq_false, not_false_eq_true, Nat.one_ne_zero, Nat.zero_ne_one, Nat.succ_ne_self, Nat.reduceAdd, Bool.false_eq_true, false_implies, implies_true, reduceCtorEq, q1, q2, q3, q4, List.length_nil]
        rfl
  · simp -implicitDefEqProofs only [go_sem, e4]
    have q2 : (stepD d).fa = d.fa := by simp only [decide_eq_false_iff_not] at e4; simp [stepD, hfa]; intro; omega
    refine loop_fam (fun t : Nat => t ≤ d.pend.length) (fun t => ⟨[(0, .ptr 1 0), (22, .sl 4 0 d.pend.length 65), (23, .v (.int .i64 d.pend.length)), (24, .v (.int .i64 t))],
      ⟨[(1, some ⟨true, .sv [.sl 2 0 d.seen.length 64, .sl 3 0 d.seen.length 64, .sl 4 0 d.pend.length 65, .v (.int .i64 (IntKind.i64.wrap (d.st + 1))), .v (.int .i64 d.fa), .v (.bool false)]⟩), (2, some ⟨true, .ints .u8 d.seen.flatten⟩), (3, some ⟨true, .ints .u8 (setl d.safe (d.pend.take t)).flatten⟩), (4, some ⟨false, .pl (prow d.pend)⟩)], x⟩, 5⟩) (fun t => d.pend.length - t) 0 (by omega) ?_ ?_
    · refine sub0 rfl rfl ?_
      simp only [tmSub, hpSub, objSub, eqTm, eqHp, rn, lk, SV.ren, SV.renC, SV.renB, SV.renA, ren_ints, ren_strs, ren_pl, ren_svs, SV.v.injEq, Value.int.injEq, Body.ints.injEq, SV.ptr.injEq, SV.sl.injEq, Value.string.injEq, Value.bool.injEq, List.map_cons, List.map_nil, forall_const, Nat.reduceLT, Nat.lt_add_one, imp_self, true_and, and_true, and_self, ob_some, get_mk, lk_cons, ↓reduceIte, Nat.reduceEqDiff, ne_eq, not_true_eq_false, not_false_eq_true, Nat.one_ne_zero, Nat.zero_ne_one, Nat.succ_ne_self, Nat.reduceAdd, Bool.false_eq_true, false_implies, implies_true, reduceCtorEq, setl]
      exact ⟨rfl, rfl⟩
    · intro t ht
      simp -implicitDefEqProofs only [go_sem]
      refine condK_bb (fun e6 => ?_) (fun e6 => ?_)
      · have c6 : t < d.pend.length := by simp only [decide_eq_true_eq] at e6; omega
        have hw := h5 (d.pend.getD t (0, [])) (by rw [List.getD_eq_getElem?_getD, List.getElem?_eq_getElem c6]; exact List.getElem_mem c6)
        have p1 := hrow t c6
        have p4 := setl_succ (S := d.safe) c6
        generalize d.pend.getD t (0, []) = w at hw p1 p4
        have p2 := zw_all hw.2
        have p3 := wcell_len hw.2
        have p5 : List.take 64 (w.2.map (Value.int .u8)) = w.2.map (Value.int .u8) := List.take_of_length_le (by simp; omega)
        have p6 := setl_all (ws := d.pend.take t) (S := d.safe) (fun w hw => (h5 w (List.mem_of_mem_take hw)).2) h2
        have p7 : (setl d.safe (d.pend.take t)).length = d.seen.length := by rw [setl_len, h3]
        have p8 := flat_set (s := w.2) p6 (by rw [p7]; exact hw.1) hw.2
        have p9 := flat_len p6
        simp -implicitDefEqProofs only [go_sem, p1, p2, p3, p5, p8, wcell_hd, wcell_tl, ones_wcell, List.length_map, hw.2]
        refine ⟨by omega, by omega, by omega, by omega, kLoop_mk (t + 1) (by omega) (by omega) (sub0 rfl rfl ?_)⟩
        simp only [tmSub, hpSub, objSub, eqTm, eqHp, rn, lk, SV.ren, SV.renC, SV.renB, SV.renA, ren_ints, ren_strs, ren_pl, ren_svs, SV.v.injEq, Value.int.injEq, Body.ints.injEq, SV.ptr.injEq, SV.sl.injEq, Value.string.injEq, Value.bool.injEq, List.map_cons, List.map_nil, forall_const, Nat.reduceLT, Nat.lt_add_one, imp_self, true_and, and_true, and_self, ob_some, get_mk, lk_cons, ↓reduceIte, Nat.reduceEqDiff, ne_eq, not_true_eq_false, not_false_eq_true, Nat.one_ne_zero, Nat.zero_ne_one, Nat.succ_ne_self, Nat.reduceAdd, Bool.false_eq_true, false_implies, implies_true, reduceCtorEq, p4]
        rw [wrap_i64 (by omega) (by omega)]
        exact Int.natCast_add t 1
      · have c6 : d.pend.take t = d.pend := List.take_of_length_le (by simp only [decide_eq_false_iff_not] at e6; omega)
        simp -implicitDefEqProofs only [go_sem, c6]
        refine sub_mk [(5, 0)] rfl rfl rfl ?_
        simp only [tmSub, hpSub, objSub, eqTm, eqHp, rn, lk, SV.ren, SV.renC, SV.renB, SV.renA, ren_ints, ren_strs, ren_pl, ren_svs, SV.v.injEq, Value.int.injEq, Body.ints.injEq, SV.ptr.injEq, SV.sl.injEq, Value.string.injEq, Value.bool.injEq, List.map_cons, List.map_nil, forall_const, Nat.reduceLT, Nat.lt_add_one, imp_self, true_and, and_true, and_self, ob_some, get_mk, lk_cons, ↓reduceIte, Nat.reduceEqDiff, ne_eq, not_true_eq_false, not_false_eq_true, Nat.one_ne_zero, Nat.zero_ne_one, Nat.succ_ne_self, Nat.reduceAdd, Bool.false_eq_true, false_implies, implies_true, reduceCtorEq, q1, q2, q3, q4, List.length_nil]
        rfl
variable {H : Hp} {n : Nat} {x : Nat → Option SO}
theorem wF12n {d d' : Fd} {e : Int} (hn : (if d.off then some ((7 : Int), d) else if d.fa = 1 then some (7, stepD d) else none) = some (e, d')) :
    fnVC C3 mFBarrier [.ptr 1 0] (hp3r d x) 5 fun v H' n' => Sub 5 ⟨[(0, .v (.int .i64 e))], hp3r d' x, 5⟩ ⟨[(0, v)], H', n'⟩ := by
  unfold hp3r devB secB mFBarrier
  simp -implicitDefEqProofs only [↓fnVC, initTm]
  cases hoff : d.off with
  | true =>
    rw [hoff, if_pos rfl] at hn
    cases hn
    simp -implicitDefEqProofs only [go_sem, hoff]
    refine sub_mk [] rfl rfl rfl ?_
    simp only [tmSub, hpSub, objSub, eqTm, eqHp, rn, lk, SV.ren, SV.renC, SV.renB, SV.renA, ren_ints, ren_strs, ren_pl, ren_svs, SV.v.injEq, Value.int.injEq, Body.ints.injEq, SV.ptr.injEq, SV.sl.injEq, Value.string.injEq, Value.bool.injEq, List.map_cons, List.map_nil, forall_const, Nat.reduceLT, Nat.lt_add_one, imp_self, true_and, and_true, and_self, ob_some, get_mk, lk_cons, ↓reduceIte, Nat.reduceEqDiff, ne_eq, not_true_eq_false, not_false_eq_true, Nat.one_ne_zero, Nat.zero_ne_one, Nat.succ_ne_self, Nat.reduceAdd, Bool.false_eq_true, false_implies, implies_true, reduceCtorEq, hoff]
  | false =>
    rw [hoff, if_neg (by simp)] at hn
    split at hn
    · rename_i c4
      cases hn
      simp -implicitDefEqProofs only [go_sem, hoff]
      refine in_call mix3 tFstep ?_
      unfold mFstep
      simp -implicitDefEqProofs only [↓fnVC, initTm]
      have e4 : decide ((1 : Int) > 0) = true := rfl
      have e5 : decide (IntKind.i64.wrap (1 - 1) = 0) = true := rfl
      have q1 : (stepD d).st = d.st := by simp [stepD, c4]
      have q2 : (stepD d).fa = IntKind.i64.wrap (1 - 1) := by simp [stepD, c4]; rfl
      have q3 : (stepD d).off = true := by simp [stepD, c4]
      have q4 : (stepD d).seen = d.seen := by simp [stepD, c4]
      have q5 : (stepD d).safe = d.safe := by simp [stepD, c4]
      have q6 : (stepD d).pend = d.pend := by simp [stepD, c4]
      simp -implicitDefEqProofs only [go_sem, c4, e4, e5]
      refine sub_mk [] rfl rfl rfl ?_
      simp only [tmSub, hpSub, objSub, eqTm, eqHp, rn, lk, SV.ren, SV.renC, SV.renB, SV.renA, ren_ints, ren_strs, ren_pl, ren_svs, SV.v.injEq, Value.int.injEq, Body.ints.injEq, SV.ptr.injEq, SV.sl.injEq, Value.string.injEq, Value.bool.injEq, List.map_cons, List.map_nil, forall_const, Nat.reduceLT, Nat.lt_add_one, imp_self, true_and, and_true, and_self, ob_some, get_mk, lk_cons, ↓reduceIte, Nat.reduceEqDiff, ne_eq, not_true_eq_false, not_false_eq_true, Nat.one_ne_zero, Nat.zero_ne_one, Nat.succ_ne_self, Nat.reduceAdd, Bool.false_eq_true, false_implies, implies_true, reduceCtorEq, q1, q2, q3, q4, q5, q6]
    · cases hn
def rdV (d : Fd) (k : Int) : SV :=
  if d.off then .tup [.v (.string ⟨#[]⟩), .v (.int .i64 7)] else if k < 0 ∨ (d.seen.length : Int) ≤ k then .tup [.v (.string ⟨#[]⟩), .v (.int .i64 1)] else .tup [.v (.string (tx (d.seen.getD k.toNat []))), .v (.int .i64 0)]
def hp3s (d : Fd) (x : Nat → Option SO) : Hp := ⟨[(1, some ⟨false, devB d 2 3 4⟩), (2, some ⟨false, secB d.seen⟩), (3, some ⟨false, secB d.safe⟩), (4, some ⟨false, .pl (prow d.pend)⟩)], x⟩
theorem wF14 {d : Fd} {k : Int} (hd : d.ok) :
    fnVC C3 mFRead [.ptr 1 0, .v (.int .i64 k)] (hp3s d x) 5 fun v H' n' => v = rdV d k ∧ H' = hp3s d x ∧ n' = 5 := by
  obtain ⟨h1, h2, h3, h4, h5, h6, h7, h8, h9, h10⟩ := hd
  unfold hp3s devB secB mFRead
  simp -implicitDefEqProofs only [↓fnVC, initTm]
  simp -implicitDefEqProofs only [go_sem]
  refine in_call mix3 tFat ?_
  unfold mFat
  simp -implicitDefEqProofs only [↓fnVC, initTm]
  cases hoff : d.off with
  | true =>
    have hv : rdV d k = .tup [.v (.string ⟨#[]⟩), .v (.int .i64 7)] := by unfold rdV; rw [if_pos hoff]
    simp -implicitDefEqProofs only [go_sem, hoff, hv]
  | false =>
    have hof : ¬ (d.off = true) := by rw [hoff]; simp
    simp -implicitDefEqProofs only [go_sem, hoff]
    by_cases c1 : k < 0
    · have e1 : decide (k < 0) = true := decide_eq_true c1
      have hv : rdV d k = .tup [.v (.string ⟨#[]⟩), .v (.int .i64 1)] := by unfold rdV; rw [if_neg hof, if_pos (Or.inl c1)]
      simp -implicitDefEqProofs only [go_sem, e1, hv]
    have e1 : decide (k < 0) = false := decide_eq_false c1
    simp -implicitDefEqProofs only [go_sem, e1]
    refine in_call mix3 tFSectors ?_
    unfold mFSectors
    simp -implicitDefEqProofs only [↓fnVC, initTm]
    by_cases c2 : (d.seen.length : Int) ≤ k
    · have e2 : decide (k ≥ (d.seen.length : Int)) = true := decide_eq_true c2
      have hv : rdV d k = .tup [.v (.string ⟨#[]⟩), .v (.int .i64 1)] := by unfold rdV; rw [if_neg hof, if_pos (Or.inr c2)]
      simp -implicitDefEqProofs only [go_sem, e1, e2, hv]
    have e2 : decide (k ≥ (d.seen.length : Int)) = false := decide_eq_false c2
    have hv : rdV d k = .tup [.v (.string (tx (d.seen.getD k.toNat []))), .v (.int .i64 0)] := by unfold rdV; rw [if_neg hof, if_neg (fun h => h.elim c1 c2)]
    have hk : k.toNat < d.seen.length := by omega
    have r1 := flat_take h1 hk
    have r2 := getD_len h1 hk
    have r3 := flat_len h1
    simp -implicitDefEqProofs only [go_sem, e1, e2, r1, hv]
    refine ⟨by omega, by rw [List.length_map, r3]; omega, by omega, by rw [r3]; omega⟩
def newD (k : Nat) : Fd := { seen := List.replicate k (zi 64), safe := List.replicate k (zi 64), pend := [], st := 0, fa := 0, off := false }
theorem newD_ok {k : Nat} (hk : k ≤ 4096) : (newD k).ok :=
  ⟨fun s hs => by rw [List.eq_of_mem_replicate hs]; simp [zi], fun s hs => by rw [List.eq_of_mem_replicate hs]; simp [zi], by simp [newD], by simp [newD]; exact hk, fun w hw => by simp [newD] at hw, by simp [newD], by simp [newD], by simp [newD], by simp [newD], by simp [newD]⟩
theorem reps_zi {k : Nat} : (Body.ints .u8 (zi 64)).reps k = secB (List.replicate k (zi 64)) := rfl
theorem wF10 {k : Nat} (h0 : 1 ≤ k) (hk : k ≤ 4096) :
    fnVC C3 mFNew [.v (.int .i64 k)] ⟨[], x⟩ 1 fun v H' n' => Sub 1 ⟨[(0, .tup [.ptr 1 0, .v (.int .i64 0)])], hp3 (newD k) x, 5⟩ ⟨[(0, v)], H', n'⟩ := by
  have e1 : decide ((k : Int) < 1) = false := decide_eq_false (by omega)
  have e2 : decide ((k : Int) > 4096) = false := decide_eq_false (by omega)
  unfold hp3 devB secB mFNew
  simp -implicitDefEqProofs only [↓fnVC, initTm]
  simp -implicitDefEqProofs only [go_sem, e1, e2]
  have hb : ((64 : Nat) : Int) * (k : Int) ≤ 140737488355328 := by omega
  refine ⟨⟨⟨by omega, by omega, by omega, hb⟩, ⟨by omega, by omega, by omega, hb⟩, sub_mk [(1, 3), (2, 1), (3, 2), (4, 0)] rfl rfl rfl ?_⟩, ⟨by omega, by omega, by omega, hb⟩, ⟨by omega, by omega, by omega, hb⟩, sub_mk [(1, 3), (2, 2), (3, 1), (4, 0)] rfl rfl rfl ?_⟩
  · simp only [tmSub, hpSub, objSub, eqTm, eqHp, rn, lk, SV.ren, SV.renC, SV.renB, SV.renA, ren_ints, ren_strs, ren_pl, ren_svs, SV.v.injEq, Value.int.injEq, Body.ints.injEq, SV.ptr.injEq, SV.sl.injEq, Value.string.injEq, Value.bool.injEq, List.map_cons, List.map_nil, forall_const, Nat.reduceLT, Nat.lt_add_one, imp_self, true_and, and_true, and_self, ob_some, get_mk, lk_cons, ↓reduceIte, Nat.reduceEqDiff, ne_eq, not_true_eq_false, not_false_eq_true, Nat.one_ne_zero, Nat.zero_ne_one, Nat.succ_ne_self, Nat.reduceAdd, Bool.false_eq_true, false_implies, implies_true, reduceCtorEq, splice_zero, splice_succ, List.drop_succ_cons, List.drop_zero, List.drop_nil, List.cons_append, List.nil_append, List.length_cons, List.length_nil, newD, reps_zi, List.length_replicate, secB, prow, List.map_nil, List.flatten_nil]
    rfl
  · simp only [tmSub, hpSub, objSub, eqTm, eqHp, rn, lk, SV.ren, SV.renC, SV.renB, SV.renA, ren_ints, ren_strs, ren_pl, ren_svs, SV.v.injEq, Value.int.injEq, Body.ints.injEq, SV.ptr.injEq, SV.sl.injEq, Value.string.injEq, Value.bool.injEq, List.map_cons, List.map_nil, forall_const, Nat.reduceLT, Nat.lt_add_one, imp_self, true_and, and_true, and_self, ob_some, get_mk, lk_cons, ↓reduceIte, Nat.reduceEqDiff, ne_eq, not_true_eq_false, not_false_eq_true, Nat.one_ne_zero, Nat.zero_ne_one, Nat.succ_ne_self, Nat.reduceAdd, Bool.false_eq_true, false_implies, implies_true, reduceCtorEq, splice_zero, splice_succ, List.drop_succ_cons, List.drop_zero, List.drop_nil, List.cons_append, List.nil_append, List.length_cons, List.length_nil, newD, reps_zi, List.length_replicate, secB, prow, List.map_nil, List.flatten_nil]
    rfl
variable {H : Hp} {n : Nat} {x : Nat → Option SO}
theorem ones_im {k : IntKind} (l : List Int) : ((l.map (Value.int k)).all fun x => x.oneCell') = true := List.all_eq_true.2 (fun x hx => by
  rw [List.mem_map] at hx; obtain ⟨_, _, rfl⟩ := hx; rfl)
theorem flat_part {α : Type} {z k : Nat} {l : List (List α)} {j : Nat} {s : List α} (h : ∀ s ∈ l, s.length = z) (hj : j < l.length) (hs : s.length = k) (hk : k ≤ z) :
    splice l.flatten (j * z) s = (l.set j (s ++ (l.getD j []).drop k)).flatten := by
  unfold splice
  rw [flat_firsts h (by omega), hs, ← List.drop_drop, flat_drop j h, List.drop_eq_getElem_cons hj, List.flatten_cons, List.drop_append_of_le_length (by rw [h _ (List.getElem_mem hj)]; exact hk),
    List.set_eq_take_append_cons_drop, if_pos hj, List.flatten_append, List.flatten_cons, List.getD_eq_getElem?_getD, List.getElem?_eq_getElem hj]
  simp only [Option.getD_some, List.append_assoc]
def clampN (v : Int) : Nat := (min (max v 0) 64).toNat
theorem clampN_le (v : Int) : clampN v ≤ 64 := by unfold clampN; omega
def keepN (ks : List Int) (t : Nat) : Nat := if ks.length = 0 then 0 else clampN (ks.getD (t % ks.length) 0)
theorem keepN_le (ks : List Int) (t : Nat) : keepN ks t ≤ 64 := by
  unfold keepN; split
  · omega
  · exact clampN_le _
def crl (S : List (List Int)) (ws : List (Nat × List Int)) (kf : Nat → Nat) : Nat → List (List Int)
  | 0 => S
  | t + 1 => (crl S ws kf t).set (ws.getD t (0, [])).1 ((ws.getD t (0, [])).2.take (kf t) ++ ((crl S ws kf t).getD (ws.getD t (0, [])).1 []).drop (kf t))
theorem crl_len {S : List (List Int)} {ws : List (Nat × List Int)} {kf : Nat → Nat} : ∀ t, (crl S ws kf t).length = S.length
  | 0 => rfl
  | t + 1 => by simp only [crl, List.length_set]; exact crl_len t
theorem cut_len {k : Nat} {a b : List Int} (ha : a.length = 64) (hb : b.length = 64) : (a.take k ++ b.drop k).length = 64 := by simp; omega
theorem crl_all {S : List (List Int)} {ws : List (Nat × List Int)} {kf : Nat → Nat} (hS : ∀ s ∈ S, s.length = 64) (hw : ∀ w ∈ ws, w.1 < S.length ∧ w.2.length = 64) : ∀ t, t ≤ ws.length → ∀ s ∈ crl S ws kf t, s.length = 64
  | 0, _ => hS
  | t + 1, ht => by
    have c6 : t < ws.length := by omega
    have hw' := hw (ws.getD t (0, [])) (by rw [List.getD_eq_getElem?_getD, List.getElem?_eq_getElem c6]; exact List.getElem_mem c6)
    have ih := crl_all (kf := kf) hS hw t (by omega)
    exact set_all ih (cut_len hw'.2 (getD_len ih (by rw [crl_len]; exact hw'.1)))
theorem set_same {α : Type} {l : List α} {j : Nat} {a : α} (h : j < l.length) : l.set j (l.getD j a) = l := by
  rw [List.getD_eq_getElem?_getD, List.getElem?_eq_getElem h]; exact List.set_getElem_self h
def crD (d : Fd) (ks : List Int) : Fd := { d with seen := crl d.safe d.pend (keepN ks) d.pend.length, safe := crl d.safe d.pend (keepN ks) d.pend.length, pend := [], fa := 0, off := false }
theorem wF15 {d : Fd} {row : List Int} {o m : Nat} (hd : d.ok) (hpos : 0 < d.seen.length) (hom : o + m ≤ row.length) :
    fnVC C3 mFCrash [.ptr 1 0, .agg [.sl 5 o m 1]] ⟨[(1, some ⟨true, devB d 2 3 4⟩), (2, some ⟨false, secB d.seen⟩), (3, some ⟨true, secB d.safe⟩), (4, some ⟨false, .pl (prow d.pend)⟩), (5, some ⟨false, .ints .i64 row⟩)], x⟩ 6
      fun v H' n' => Sub 6 ⟨[(0, .tup [])], ⟨[(1, some ⟨true, devB (crD d ((row.drop o).take m)) 6 3 7⟩), (2, some ⟨false, secB d.seen⟩), (3, some ⟨true, secB (crD d ((row.drop o).take m)).safe⟩), (4, some ⟨false, .pl (prow d.pend)⟩), (5, some ⟨false, .ints .i64 row⟩),
        (6, some ⟨true, secB (crD d ((row.drop o).take m)).seen⟩), (7, some ⟨true, .pl []⟩)], x⟩, 8⟩ ⟨[(0, v)], H', n'⟩ := by
  obtain ⟨h1, h2, h3, h4, h5, h6, h7, h8, h9, h10⟩ := hd
  have hrow := fun t (h : t < d.pend.length) => prow_at (j := t) (fun w hw => (h5 w hw).2) h
  have hplen := prow_len (ws := d.pend) (fun w hw => (h5 w hw).2)
  obtain ⟨ks, hks⟩ : ∃ ks, ks = (row.drop o).take m := ⟨_, rfl⟩
  have hkl : ks.length = m := by rw [hks]; simp; omega
  have hkg : ∀ j, j < m → row.getD (o + j) 0 = ks.getD j 0 := fun j hj => by
    rw [hks, List.getD_eq_getElem?_getD, List.getD_eq_getElem?_getD, List.getElem?_take, if_pos hj, List.getElem?_drop]
  rw [← hks]
  have hall := crl_all (kf := keepN ks) h2 (fun w hw => ⟨by rw [h3]; exact (h5 w hw).1, (h5 w hw).2⟩)
  unfold devB secB mFCrash
  simp -implicitDefEqProofs only [↓fnVC, initTm]
  simp -implicitDefEqProofs only [go_sem]
  refine loop_fam (fun t : Nat => t ≤ d.pend.length) (fun t => ⟨[(0, .ptr 1 0), (3, .ptr 6 0), (12, .sl 4 0 d.pend.length 65), (13, .v (.int .i64 d.pend.length)), (14, .v (.int .i64 t))],
      ⟨[(1, some ⟨true, .sv [.sl 2 0 d.seen.length 64, .sl 3 0 d.seen.length 64, .sl 4 0 d.pend.length 65, .v (.int .i64 d.st), .v (.int .i64 d.fa), .v (.bool d.off)]⟩), (2, some ⟨false, .ints .u8 d.seen.flatten⟩), (3, some ⟨true, .ints .u8 (crl d.safe d.pend (keepN ks) t).flatten⟩), (4, some ⟨false, .pl (prow d.pend)⟩), (5, some ⟨false, .ints .i64 row⟩), (6, some ⟨true, .sv [.sl 5 o m 1]⟩)], x⟩, 7⟩) (fun t => d.pend.length - t) 0 (by omega) ?_ ?_
  · refine sub0 rfl rfl ?_
    simp only [tmSub, hpSub, objSub, eqTm, eqHp, rn, lk, SV.ren, SV.renC, SV.renB, SV.renA, ren_ints, ren_strs, ren_pl, ren_svs, SV.v.injEq, Value.int.injEq, Body.ints.injEq, SV.ptr.injEq, SV.sl.injEq, Value.string.injEq, Value.bool.injEq, List.map_cons, List.map_nil, forall_const, Nat.reduceLT, Nat.lt_add_one, imp_self, true_and, and_true, and_self, ob_some, get_mk, lk_cons, ↓reduceIte, Nat.reduceEqDiff, ne_eq, not_true_eq_false, not_false_eq_true, Nat.one_ne_zero, Nat.zero_ne_one, Nat.succ_ne_self, Nat.reduceAdd, Bool.false_eq_true, false_implies, implies_true, reduceCtorEq, crl]
    exact rfl
  · intro t ht
    simp -implicitDefEqProofs only [go_sem]
    refine condK_bb (fun e6 => ?_) (fun e6 => ?_)
    · have c6 : t < d.pend.length := by simp only [decide_eq_true_eq] at e6; omega
      have hw := h5 (d.pend.getD t (0, [])) (by rw [List.getD_eq_getElem?_getD, List.getElem?_eq_getElem c6]; exact List.getElem_mem c6)
      have p1 := hrow t c6
      have p4 : crl d.safe d.pend (keepN ks) (t + 1) = (crl d.safe d.pend (keepN ks) t).set (d.pend.getD t (0, [])).1 ((d.pend.getD t (0, [])).2.take (keepN ks t) ++ ((crl d.safe d.pend (keepN ks) t).getD (d.pend.getD t (0, [])).1 []).drop (keepN ks t)) := rfl
      generalize d.pend.getD t (0, []) = w at hw p1 p4
      have p2 := zw_all hw.2
      have p3 := wcell_len hw.2
      have p6 := hall t ht
      have p7 : (crl d.safe d.pend (keepN ks) t).length = d.seen.length := by rw [crl_len, h3]
      have p9 := flat_len p6
      have kl := keepN_le ks t
      have p5 : List.take (keepN ks t) (w.2.map (Value.int .u8)) = (w.2.take (keepN ks t)).map (Value.int .u8) := List.map_take.symm
      have p8 := flat_part (s := w.2.take (keepN ks t)) (j := w.1) (k := keepN ks t) p6 (by rw [p7]; exact hw.1) (by simp; omega) kl
      have p10 : (w.2.take (keepN ks t)).length = keepN ks t := by simp; omega
      by_cases hm0 : m = 0
      · have e7 : decide ((m : Int) > 0) = false := decide_eq_false (by omega)
        have k0 : keepN ks t = 0 := by unfold keepN; rw [if_pos (by omega)]
        have p11 : crl d.safe d.pend (keepN ks) (t + 1) = crl d.safe d.pend (keepN ks) t := by
          rw [p4, k0, List.take_zero, List.nil_append, List.drop_zero, set_same (by rw [p7]; exact hw.1)]
        simp -implicitDefEqProofs only [go_sem, p1, p2, p3, wcell_hd, wcell_tl, ones_wcell, List.length_map, e7]
        refine ⟨by omega, by omega, kLoop_mk (t + 1) (by omega) (by omega) (sub0 rfl rfl ?_)⟩
        simp only [tmSub, hpSub, objSub, eqTm, eqHp, rn, lk, SV.ren, SV.renC, SV.renB, SV.renA, ren_ints, ren_strs, ren_pl, ren_svs, SV.v.injEq, Value.int.injEq, Body.ints.injEq, SV.ptr.injEq, SV.sl.injEq, Value.string.injEq, Value.bool.injEq, List.map_cons, List.map_nil, forall_const, Nat.reduceLT, Nat.lt_add_one, imp_self, true_and, and_true, and_self, ob_some, get_mk, lk_cons, ↓reduceIte, Nat.reduceEqDiff, ne_eq, not_true_eq_false, not_false_eq_true, Nat.one_ne_zero, Nat.zero_ne_one, Nat.succ_ne_self, Nat.reduceAdd, Bool.false_eq_true, false_implies, implies_true, reduceCtorEq, p11]
        rw [wrap_i64 (by omega) (by omega)]
        exact Int.natCast_add t 1
      · have e7 : decide ((m : Int) > 0) = true := decide_eq_true (by omega)
        have hmod : (t : Int).tmod (m : Int) = ((t % m : Nat) : Int) := by rw [Int.tmod_eq_emod_of_nonneg (by omega)]; exact (Int.natCast_emod t m).symm
        have hlt : t % m < m := Nat.mod_lt _ (by omega)
        have hg := hkg (t % m) hlt
        have hcl : min (max (ks.getD (t % m) 0) 0) 64 = ((keepN ks t : Nat) : Int) := by
          unfold keepN clampN; rw [if_neg (by omega), hkl]; omega
        simp -implicitDefEqProofs only [go_sem, p1, p2, p3, wcell_hd, wcell_tl, ones_wcell, List.length_map, e7, hmod, hg, hcl, p5, p8, p10, Nat.min_self, Nat.sub_zero]
        refine ⟨by omega, by omega, by omega, by omega, by omega, by omega, by omega, by omega, by omega, by omega, ones_im _, by omega, kLoop_mk (t + 1) (by omega) (by omega) (sub0 rfl rfl ?_)⟩
        simp only [tmSub, hpSub, objSub, eqTm, eqHp, rn, lk, SV.ren, SV.renC, SV.renB, SV.renA, ren_ints, ren_strs, ren_pl, ren_svs, SV.v.injEq, Value.int.injEq, Body.ints.injEq, SV.ptr.injEq, SV.sl.injEq, Value.string.injEq, Value.bool.injEq, List.map_cons, List.map_nil, forall_const, Nat.reduceLT, Nat.lt_add_one, imp_self, true_and, and_true, and_self, ob_some, get_mk, lk_cons, ↓reduceIte, Nat.reduceEqDiff, ne_eq, not_true_eq_false, not_false_eq_true, Nat.one_ne_zero, Nat.zero_ne_one, Nat.succ_ne_self, Nat.reduceAdd, Bool.false_eq_true, false_implies, implies_true, reduceCtorEq, p4]
        rw [wrap_i64 (by omega) (by omega)]
        exact Int.natCast_add t 1
    · have c6 : t = d.pend.length := by simp only [decide_eq_false_iff_not] at e6; omega
      subst c6
      have p6 := hall _ (Nat.le_refl _)
      have p7 : (crl d.safe d.pend (keepN ks) d.pend.length).length = d.seen.length := by rw [crl_len, h3]
      have p9 := flat_len p6
      have p10 : (crl d.safe d.pend (keepN ks) d.pend.length).flatten.take (d.seen.length * 64) = (crl d.safe d.pend (keepN ks) d.pend.length).flatten := List.take_of_length_le (by omega)
      simp -implicitDefEqProofs only [go_sem]
      refine in_call mix3 tCloneF ?_
      unfold mCloneF
      simp -implicitDefEqProofs only [↓fnVC, initTm]
      simp -implicitDefEqProofs only [go_sem]
      refine nilK_of (by decide) rfl (fun h => by omega) ?_
      simp -implicitDefEqProofs only [go_sem, p10]
      refine ⟨by omega, by omega, by omega, sub_mk [(6, 8), (7, 0)] rfl rfl rfl ?_⟩
      simp only [tmSub, hpSub, objSub, eqTm, eqHp, rn, lk, SV.ren, SV.renC, SV.renB, SV.renA, ren_ints, ren_strs, ren_pl, ren_svs, SV.v.injEq, Value.int.injEq, Body.ints.injEq, SV.ptr.injEq, SV.sl.injEq, Value.string.injEq, Value.bool.injEq, List.map_cons, List.map_nil, forall_const, Nat.reduceLT, Nat.lt_add_one, imp_self, true_and, and_true, and_self, ob_some, get_mk, lk_cons, ↓reduceIte, Nat.reduceEqDiff, ne_eq, not_true_eq_false, not_false_eq_true, Nat.one_ne_zero, Nat.zero_ne_one, Nat.succ_ne_self, Nat.reduceAdd, Bool.false_eq_true, false_implies, implies_true, reduceCtorEq, crD, p7, List.length_nil]
      rfl
variable {H : Hp} {n : Nat} {x : Nat → Option SO} {d d' : Fd} {i a b c : Nat}
theorem ok3 : OKT Tryz.prog C3 := okCS mix3
abbrev dis4 (i a b c : Nat) : Prop := (0 < i ∧ 0 < a ∧ 0 < b ∧ 0 < c) ∧ (i < 1000 ∧ a < 1000 ∧ b < 1000 ∧ c < 1000) ∧ i ≠ a ∧ i ≠ b ∧ i ≠ c ∧ a ≠ b ∧ a ≠ c ∧ b ≠ c
structure DevAt (H : Hp) (d : Fd) (i a b c : Nat) : Prop where
  gi : H.get i = some ⟨true, devB d a b c⟩
  ga : H.get a = some ⟨true, secB d.seen⟩
  gb : H.get b = some ⟨true, secB d.safe⟩
  gc : H.get c = some ⟨true, .pl (prow d.pend)⟩
  ne : dis4 i a b c
theorem wrS {k : Nat} {s : ByteArray} (h : DevAt H d i a b c) (hd : d.ok) (hk : k < d.seen.length) (hs : s.size ≤ 64) (hoff : d.off = false) (hfa : d.fa ≠ 1) (hn : n < 1000) :
    SpecAt Tryz.prog nFWrite [.ptr i 0, .v (.int .i64 k), .v (.string s)] H n (.v (.int .i64 0))
      ⟨(i, some ⟨true, devB { stepD d with seen := d.seen.set k (pad64 (bts s)), pend := d.pend ++ [(k, pad64 (bts s))] } a b n⟩) :: (a, some ⟨true, secB (d.seen.set k (pad64 (bts s)))⟩) :: (b, some ⟨true, secB d.safe⟩) :: (c, none) :: (n, some ⟨true, .pl (prow (d.pend ++ [(k, pad64 (bts s))]))⟩) :: H.l, H.x⟩ (n + 1) := by
  obtain ⟨hi, ha, hb, hc, ⟨p1, p2, p3, p4⟩, ⟨q1, q2, q3, q4⟩, n1, n2, n3, n4, n5, n6⟩ := h
  have := lift (n := n) (ok3.spec tFWrite (wF11 (x := H.x) hd hk hs hoff hfa)) [(1, i), (2, a), (3, b), (4, c)] rfl rfl rfl (by omega) rfl rfl
    ⟨sub_wr rfl p1 q1 hi rfl, sub_wr rfl p2 q2 ha rfl, sub_wr rfl p3 q3 hb rfl, sub_wr rfl p4 q4 hc rfl, trivial⟩
    (by simp [apartB, apart1, rn, lk, n1, n2, n3, n4, n5, n6, Ne.symm n1, Ne.symm n2, Ne.symm n3, Ne.symm n4, Ne.symm n5, Ne.symm n6]) (by simp [wrNZ, rn, lk]; try omega) (by omega)
  exact this
theorem wrF {k e : Int} {s : ByteArray} (h : DevAt H d i a b c) (hd : d.ok) (hw : wrNo d k s = some (e, d')) (hr : d'.seen = d.seen ∧ d'.safe = d.safe ∧ d'.pend = d.pend) :
    SpecAt Tryz.prog nFWrite [.ptr i 0, .v (.int .i64 k), .v (.string s)] H n (.v (.int .i64 e)) ⟨(i, some ⟨true, devB d' a b c⟩) :: H.l, H.x⟩ n := by
  obtain ⟨hi, ha, hb, hc, ⟨p1, p2, p3, p4⟩, ⟨q1, q2, q3, q4⟩, n1, n2, n3, n4, n5, n6⟩ := h
  have := lift (n := n) (ok3.spec tFWrite (wF11n (x := H.x) hd hw)) [(1, i), (2, a), (3, b), (4, c)] rfl rfl rfl (by omega) rfl rfl
    ⟨sub_wr rfl p1 q1 hi rfl, sub_ro rfl p2 ha rfl, sub_ro rfl p3 hb rfl, sub_ro rfl p4 hc rfl, trivial⟩
    (by simp [apartB, apart1, rn, lk, n1, n2, n3, n4, n5, n6, Ne.symm n1, Ne.symm n2, Ne.symm n3, Ne.symm n4, Ne.symm n5, Ne.symm n6]) (by simp [wrNZ, rn, lk]; try omega) (by omega)
  exact this
theorem baS (h : DevAt H d i a b c) (hd : d.ok) (hoff : d.off = false) (hfa : d.fa ≠ 1) (hn : n < 1000) :
    SpecAt Tryz.prog nFBarrier [.ptr i 0] H n (.v (.int .i64 0))
      ⟨(i, some ⟨true, devB { stepD d with safe := setl d.safe d.pend, pend := [] } a b n⟩) :: (a, some ⟨true, secB d.seen⟩) :: (b, some ⟨true, secB (setl d.safe d.pend)⟩) :: (n, some ⟨true, .pl []⟩) :: H.l, H.x⟩ (n + 1) := by
  obtain ⟨hi, ha, hb, hc, ⟨p1, p2, p3, p4⟩, ⟨q1, q2, q3, q4⟩, n1, n2, n3, n4, n5, n6⟩ := h
  have := lift (n := n) (ok3.spec tFBarrier (wF12 (x := H.x) hd hoff hfa)) [(1, i), (2, a), (3, b), (4, c)] rfl rfl rfl (by omega) rfl rfl
    ⟨sub_wr rfl p1 q1 hi rfl, sub_wr rfl p2 q2 ha rfl, sub_wr rfl p3 q3 hb rfl, sub_ro rfl p4 hc rfl, trivial⟩
    (by simp [apartB, apart1, rn, lk, n1, n2, n3, n4, n5, n6, Ne.symm n1, Ne.symm n2, Ne.symm n3, Ne.symm n4, Ne.symm n5, Ne.symm n6]) (by simp [wrNZ, rn, lk]; try omega) (by omega)
  exact this
theorem baF {e : Int} (h : DevAt H d i a b c) (hw : (if d.off then some ((7 : Int), d) else if d.fa = 1 then some (7, stepD d) else none) = some (e, d')) :
    SpecAt Tryz.prog nFBarrier [.ptr i 0] H n (.v (.int .i64 e)) ⟨(i, some ⟨true, devB d' a b c⟩) :: H.l, H.x⟩ n := by
  obtain ⟨hi, ha, hb, hc, ⟨p1, p2, p3, p4⟩, ⟨q1, q2, q3, q4⟩, n1, n2, n3, n4, n5, n6⟩ := h
  have := lift (n := n) (ok3.spec tFBarrier (wF12n (x := H.x) hw)) [(1, i), (2, a), (3, b), (4, c)] rfl rfl rfl (by omega) rfl rfl
    ⟨sub_wr rfl p1 q1 hi rfl, sub_ro rfl p2 ha rfl, sub_ro rfl p3 hb rfl, sub_ro rfl p4 hc rfl, trivial⟩
    (by simp [apartB, apart1, rn, lk, n1, n2, n3, n4, n5, n6, Ne.symm n1, Ne.symm n2, Ne.symm n3, Ne.symm n4, Ne.symm n5, Ne.symm n6]) (by simp [wrNZ, rn, lk]; try omega) (by omega)
  exact this
theorem crS {r o m : Nat} {row : List Int} (h : DevAt H d i a b c) (hd : d.ok) (hpos : 0 < d.seen.length) (hom : o + m ≤ row.length) (hr : rowAt H r (.ints .i64 []) = some (.ints .i64 row)) (hne : i ≠ r ∧ b ≠ r) (hn : n + 2 ≤ 1000) :
    SpecAt Tryz.prog nFCrash [.ptr i 0, .agg [.sl r o m 1]] H n (.tup [])
      ⟨(i, some ⟨true, devB (crD d ((row.drop o).take m)) n b (n + 1)⟩) :: (b, some ⟨true, secB (crD d ((row.drop o).take m)).safe⟩) :: (n, some ⟨true, secB (crD d ((row.drop o).take m)).seen⟩) :: (n + 1, some ⟨true, .pl []⟩) :: H.l, H.x⟩ (n + 2) := by
  obtain ⟨hi, ha, hb, hc, ⟨p1, p2, p3, p4⟩, ⟨q1, q2, q3, q4⟩, n1, n2, n3, n4, n5, n6⟩ := h
  have := lift (n := n) (ok3.spec tFCrash (wF15 (x := H.x) hd hpos hom)) [(1, i), (2, a), (3, b), (4, c), (5, r)] rfl rfl rfl (by omega) rfl rfl
    ⟨sub_wr rfl p1 q1 hi rfl, sub_ro rfl p2 ha rfl, sub_wr rfl p3 q3 hb rfl, sub_ro rfl p4 hc rfl, rowAt_sub hr rfl ⟨rfl, fun _ h => (by cases h)⟩ rfl, trivial⟩
    (by simp [apartB, apart1, rn, lk, n1, n2, n3, n4, n5, n6, hne.1, hne.2, Ne.symm n1, Ne.symm n2, Ne.symm n3, Ne.symm n4, Ne.symm n5, Ne.symm n6]) (by simp [wrNZ, rn, lk]; omega) (by omega)
  exact this
theorem nwS {k : Nat} (h0 : 1 ≤ k) (hk : k ≤ 4096) (hn : n + 4 ≤ 1000) :
    SpecAt Tryz.prog nFNew [.v (.int .i64 k)] H n (.tup [.ptr n 0, .v (.int .i64 0)])
      ⟨(n, some ⟨true, devB (newD k) (n + 1) (n + 1 + 1) (n + 1 + 1 + 1)⟩) :: (n + 1, some ⟨true, secB (newD k).seen⟩) :: (n + 1 + 1, some ⟨true, secB (newD k).safe⟩) :: (n + 1 + 1 + 1, some ⟨true, .pl (prow (newD k).pend)⟩) :: H.l, H.x⟩ (n + 4) := by
  have := lift (n := n) (ok3.spec tFNew (wF10 (x := H.x) h0 hk)) [] rfl rfl rfl (by omega) rfl rfl trivial rfl rfl (by omega)
  exact this
variable {H : Hp} {n : Nat} {x : Nat → Option SO} {d d' : Fd} {i a b c : Nat}
def wrD (d : Fd) (k : Nat) (s : ByteArray) : Fd := { stepD d with seen := d.seen.set k (pad64 (bts s)), pend := d.pend ++ [(k, pad64 (bts s))] }
def baD (d : Fd) : Fd := { stepD d with safe := setl d.safe d.pend, pend := [] }
theorem stepD_no (h : d.fa ≠ 1) : stepD d = { d with fa := if 0 < d.fa then d.fa - 1 else d.fa, st := d.st + 1 } := by unfold stepD; rw [if_neg h]
theorem wrD_ok {k : Nat} {s : ByteArray} (hd : d.ok) (hk : k < d.seen.length) (hs : s.size ≤ 64) (hfa : d.fa ≠ 1) (hst : d.st < 1000000000000) (hfew : d.pend.length < 1000000000) : (wrD d k s).ok := by
  obtain ⟨h1, h2, h3, h4, h5, h6, h7, h8, h9, h10⟩ := hd
  have hp := pad64_len (ys := bts s) (by rw [bts_length]; exact hs)
  unfold wrD
  rw [stepD_no hfa]
  refine ⟨set_all h1 hp, h2, by simp [h3], by simp [h4], fun w hw => ?_, by simp; omega, by simp; omega, by simp; omega, by simp only; split <;> omega, by simp only; split <;> omega⟩
  simp only [List.mem_append, List.mem_singleton, List.length_set] at hw ⊢
  rcases hw with hw | rfl
  · exact h5 w hw
  · exact ⟨hk, hp⟩
theorem baD_ok (hd : d.ok) (hfa : d.fa ≠ 1) (hst : d.st < 1000000000000) : (baD d).ok := by
  obtain ⟨h1, h2, h3, h4, h5, h6, h7, h8, h9, h10⟩ := hd
  unfold baD
  rw [stepD_no hfa]
  exact ⟨h1, setl_all (fun w hw => (h5 w hw).2) h2, by simp only [setl_len]; exact h3, h4, fun w hw => by simp at hw, by simp, by simp only; omega, by simp only; omega, by simp only; split <;> omega, by simp only; split <;> omega⟩
theorem crD_ok {ks : List Int} (hd : d.ok) : (crD d ks).ok := by
  obtain ⟨h1, h2, h3, h4, h5, h6, h7, h8, h9, h10⟩ := hd
  have hall := crl_all (kf := keepN ks) h2 (fun w hw => ⟨by rw [h3]; exact (h5 w hw).1, (h5 w hw).2⟩) _ (Nat.le_refl _)
  exact ⟨hall, hall, rfl, by simp only [crD, crl_len]; omega, fun w hw => by simp [crD] at hw, by simp [crD], h7, h8, by simp [crD], by simp [crD]⟩
theorem wrD_safe {k : Nat} {s : ByteArray} : (wrD d k s).safe = d.safe := by unfold wrD stepD; simp only; split <;> rfl
theorem wrD_len {k : Nat} {s : ByteArray} : (wrD d k s).seen.length = d.seen.length := by simp [wrD]
theorem wrD_off {k : Nat} {s : ByteArray} (h : d.fa ≠ 1) : (wrD d k s).off = d.off := by unfold wrD; rw [stepD_no h]
theorem wrD_fa {k : Nat} {s : ByteArray} (h : d.fa = 0) : (wrD d k s).fa = 0 := by unfold wrD; rw [stepD_no (by omega)]; simp [h]
theorem wrD_st {k : Nat} {s : ByteArray} (h : d.fa ≠ 1) : (wrD d k s).st = d.st + 1 := by unfold wrD; rw [stepD_no h]
theorem wrD_pend {k : Nat} {s : ByteArray} : (wrD d k s).pend = d.pend ++ [(k, pad64 (bts s))] := rfl
theorem wrD_seen {k : Nat} {s : ByteArray} : (wrD d k s).seen = d.seen.set k (pad64 (bts s)) := rfl
theorem baD_seen : (baD d).seen = d.seen := by unfold baD stepD; simp only; split <;> rfl
theorem baD_off (h : d.fa ≠ 1) : (baD d).off = d.off := by unfold baD; rw [stepD_no h]
theorem baD_fa (h : d.fa = 0) : (baD d).fa = 0 := by unfold baD; rw [stepD_no (by omega)]; simp [h]
theorem baD_st (h : d.fa ≠ 1) : (baD d).st = d.st + 1 := by unfold baD; rw [stepD_no h]
def devL (d : Fd) (i a b c : Nat) (l : List (Nat × Option SO)) : List (Nat × Option SO) :=
  (i, some ⟨true, devB d a b c⟩) :: (a, some ⟨true, secB d.seen⟩) :: (b, some ⟨true, secB d.safe⟩) :: (c, some ⟨true, .pl (prow d.pend)⟩) :: l
theorem devL_eq {l : List (Nat × Option SO)} : devL d i a b c l = (i, some ⟨true, devB d a b c⟩) :: (a, some ⟨true, secB d.seen⟩) :: (b, some ⟨true, secB d.safe⟩) :: (c, some ⟨true, .pl (prow d.pend)⟩) :: l := rfl
theorem nwD {k : Nat} (h0 : 1 ≤ k) (hk : k ≤ 4096) (hn : n + 4 ≤ 1000) :
    SpecAt Tryz.prog nFNew [.v (.int .i64 k)] H n (.tup [.ptr n 0, .v (.int .i64 0)]) ⟨devL (newD k) n (n + 1) (n + 1 + 1) (n + 1 + 1 + 1) H.l, H.x⟩ (n + 4) := nwS h0 hk hn
theorem wrW {k : Nat} {s : ByteArray} (h : DevAt H d i a b c) (hd : d.ok) (hk : k < d.seen.length) (hs : s.size ≤ 64) (hoff : d.off = false) (hfa : d.fa ≠ 1) (hn : n < 1000) (hD : wrD d k s = d') :
    SpecAt Tryz.prog nFWrite [.ptr i 0, .v (.int .i64 k), .v (.string s)] H n (.v (.int .i64 0))
      ⟨(i, some ⟨true, devB d' a b n⟩) :: (a, some ⟨true, secB d'.seen⟩) :: (b, some ⟨true, secB d'.safe⟩) :: (c, none) :: (n, some ⟨true, .pl (prow d'.pend)⟩) :: H.l, H.x⟩ (n + 1) := by
  subst hD
  rw [wrD_safe]
  exact wrS h hd hk hs hoff hfa hn
theorem baW (h : DevAt H d i a b c) (hd : d.ok) (hoff : d.off = false) (hfa : d.fa ≠ 1) (hn : n < 1000) (hD : baD d = d') :
    SpecAt Tryz.prog nFBarrier [.ptr i 0] H n (.v (.int .i64 0))
      ⟨(i, some ⟨true, devB d' a b n⟩) :: (a, some ⟨true, secB d'.seen⟩) :: (b, some ⟨true, secB d'.safe⟩) :: (n, some ⟨true, .pl (prow d'.pend)⟩) :: H.l, H.x⟩ (n + 1) := by
  subst hD
  rw [baD_seen]
  exact baS h hd hoff hfa hn
theorem crW {r o m : Nat} {row : List Int} (h : DevAt H d i a b c) (hd : d.ok) (hpos : 0 < d.seen.length) (hom : o + m ≤ row.length) (hr : rowAt H r (.ints .i64 []) = some (.ints .i64 row)) (hne : i ≠ r ∧ b ≠ r) (hn : n + 2 ≤ 1000) (hD : crD d ((row.drop o).take m) = d') :
    SpecAt Tryz.prog nFCrash [.ptr i 0, .agg [.sl r o m 1]] H n (.tup [])
      ⟨(i, some ⟨true, devB d' n b (n + 1)⟩) :: (b, some ⟨true, secB d'.safe⟩) :: (n, some ⟨true, secB d'.seen⟩) :: (n + 1, some ⟨true, .pl (prow d'.pend)⟩) :: H.l, H.x⟩ (n + 2) := by
  subst hD
  exact crS h hd hpos hom hr hne hn
structure Gd (d : Fd) (k m : Nat) : Prop where
  ok : d.ok
  len : d.seen.length = k
  fa : d.fa = 0
  off : d.off = false
  st : d.st ≤ m
  few : d.pend.length ≤ m
theorem Gd.new {k : Nat} (hk : k ≤ 4096) : Gd (newD k) k 0 := ⟨newD_ok hk, by simp [newD], rfl, rfl, by simp [newD], by simp [newD]⟩
theorem Gd.wr {k m j : Nat} {s : ByteArray} (h : Gd d k m) (hj : j < k) (hs : s.size ≤ 64) (hm : m < 1000000) : Gd (wrD d j s) k (m + 1) :=
  have hf : d.fa ≠ 1 := by rw [h.fa]; omega
  ⟨wrD_ok h.ok (by rw [h.len]; exact hj) hs hf (by have := h.st; omega) (by have := h.few; omega), by rw [wrD_len, h.len], wrD_fa h.fa, by rw [wrD_off hf, h.off], by rw [wrD_st hf]; have := h.st; omega, by rw [wrD_pend]; have := h.few; simp; omega⟩
theorem Gd.ba {k m : Nat} (h : Gd d k m) (hm : m < 1000000) : Gd (baD d) k (m + 1) :=
  have hf : d.fa ≠ 1 := by rw [h.fa]; omega
  ⟨baD_ok h.ok hf (by have := h.st; omega), by rw [baD_seen, h.len], baD_fa h.fa, by rw [baD_off hf, h.off], by rw [baD_st hf]; have := h.st; omega, by simp [baD]⟩
theorem Gd.cr {k m : Nat} {ks : List Int} (h : Gd d k m) : Gd (crD d ks) k m :=
  ⟨crD_ok h.ok, by simp only [crD, crl_len]; rw [h.ok.len, h.len], rfl, rfl, h.st, by simp [crD]⟩
end
section
/- A device, at this program. -/
set_option linter.unusedVariables false
set_option linter.unusedSimpArgs false
set_option maxRecDepth 100000
open Go.Proofs
variable {H : Hp} {n : Nat} {x : Nat → Option SO} {d d' : Fd} {i a b c : Nat}
variable {H : Hp} {n : Nat} {x : Nat → Option SO} {d d' : Fd} {i a b c : Nat}
theorem offS (hg : H.get i = some ⟨true, devB d a b c⟩) : SpecAt Tryz.prog nFOff [.ptr i 0] H n (.v (.bool d.off)) H n := ok3.pure tFOff (by
  unfold mFOff
  simp -implicitDefEqProofs only [↓fnVC, initTm]
  simp -implicitDefEqProofs only [go_sem, hg, devB])
theorem seS (hg : H.get i = some ⟨true, devB d a b c⟩) : SpecAt Tryz.prog nFSectors [.ptr i 0] H n (.v (.int .i64 d.seen.length)) H n := ok3.pure tFSectors (by
  unfold mFSectors
  simp -implicitDefEqProofs only [↓fnVC, initTm]
  simp -implicitDefEqProofs only [go_sem, hg, devB])
variable {H : Hp} {n : Nat} {x : Nat → Option SO} {d d' : Fd} {i a b c : Nat}
variable {H : Hp} {n : Nat} {x : Nat → Option SO} {d d' : Fd} {i a b c : Nat}
def Sn (d : Fd) : Prop := d.seen = setl d.safe d.pend
theorem Sn.new {k : Nat} : Sn (newD k) := rfl
theorem setl_app {S : List (List Int)} {ws : List (Nat × List Int)} {w : Nat × List Int} : setl S (ws ++ [w]) = (setl S ws).set w.1 w.2 := by simp [setl, List.foldl_append]
theorem Sn.wr {j : Nat} {s : ByteArray} (h : Sn d) : Sn (wrD d j s) := by
  unfold Sn at *
  rw [wrD_seen, wrD_safe, wrD_pend, setl_app, ← h]
theorem Sn.ba (h : Sn d) : (baD d).seen = (baD d).safe := by
  rw [baD_seen]; exact h
open Go.ChangeShapes Go.WideShapes Go.ChangeAt Go.RowKit in
variable {H : Hp} {n : Nat} {x : Nat → Option SO} {d d' : Fd} {i a b c : Nat}
def qcell (w : Nat × List Int) : List Value := [.int .i64 w.1, .string (tx w.2)]
def qrow (ws : List (Nat × List Int)) : List Value := (ws.map qcell).flatten
def refB (d : Fd) (a b : Nat) : Body := .sv [.sl a 0 d.seen.length 1, .sl b 0 d.pend.length 2, .v (.int .i64 d.st), .v (.int .i64 d.fa), .v (.bool d.off)]
def strB (l : List (List Int)) : Body := .strs (l.map tx)
variable {H : Hp} {n : Nat} {x : Nat → Option SO} {d d' : Fd} {i a b c : Nat} {u1 u2 u3 : Bool}
structure RefAt (H : Hp) (d : Fd) (i a b : Nat) (u1 u2 u3 : Bool) : Prop where
  gi : H.get i = some ⟨u1, refB d a b⟩
  ga : H.get a = some ⟨u2, strB d.safe⟩
  gb : H.get b = some ⟨u3, .pl (qrow d.pend)⟩
  ne : (0 < i ∧ 0 < a ∧ 0 < b) ∧ (i < 1000 ∧ a < 1000 ∧ b < 1000) ∧ i ≠ a ∧ i ≠ b ∧ a ≠ b
theorem stepD_safe : (stepD d).safe = d.safe ∧ (stepD d).pend = d.pend ∧ (stepD d).seen = d.seen := by unfold stepD; split <;> exact ⟨rfl, rfl, rfl⟩
theorem setl_none {S : List (List Int)} {j : Nat} : ∀ {ws : List (Nat × List Int)}, (∀ w ∈ ws, w.1 ≠ j) → (setl S ws).getD j [] = S.getD j []
  | ws, h => by
    induction ws generalizing S with
    | nil => rfl
    | cons w ws ih =>
      show (setl (S.set w.1 w.2) ws).getD j [] = _
      rw [ih (fun w' hw' => h w' (List.mem_cons_of_mem _ hw')), List.getD_eq_getElem?_getD, List.getElem?_set_ne (h w (List.mem_cons_self ..)), List.getD_eq_getElem?_getD]
theorem setl_split {S : List (List Int)} {ws vs : List (Nat × List Int)} : setl S (ws ++ vs) = setl (setl S ws) vs := by simp [setl, List.foldl_append]
theorem setl_hit {S : List (List Int)} {j t : Nat} {ws : List (Nat × List Int)} (ht : t < ws.length) (hj : j < S.length) (h1 : (ws.getD t (0, [])).1 = j) (h : ∀ w ∈ ws.drop (t + 1), w.1 ≠ j) : (setl S ws).getD j [] = (ws.getD t (0, [])).2 := by
  have e : ws = ws.take (t + 1) ++ ws.drop (t + 1) := (List.take_append_drop _ _).symm
  rw [e, setl_split, setl_none h, setl_succ ht, h1, List.getD_eq_getElem?_getD, List.getElem?_set_self (by rw [setl_len]; exact hj)]
  rw [← e]; rfl
variable {H : Hp} {n : Nat} {x : Nat → Option SO} {d d' : Fd} {i a b c : Nat} {u1 u2 u3 : Bool}
variable {H : Hp} {n : Nat} {x : Nat → Option SO} {d d' : Fd} {i a b c : Nat} {u1 u2 u3 : Bool}
structure Pl (d : Fd) (k t : Nat) : Prop where
  ok : d.ok
  len : d.seen.length = k
  sn : Sn d
  st : d.st ≤ t
  few : d.pend.length ≤ t
theorem Pl.new {k : Nat} (hk : k ≤ 4096) : Pl (newD k) k 0 := ⟨newD_ok hk, by simp [newD], Sn.new, by simp [newD], by simp [newD]⟩
theorem Pl.wr {k t j : Nat} {s : ByteArray} (h : Pl d k t) (hj : j < k) (hs : s.size ≤ 64) (hf : d.fa ≠ 1) (ht : t < 1000000) : Pl (wrD d j s) k (t + 1) :=
  ⟨wrD_ok h.ok (by rw [h.len]; exact hj) hs hf (by have := h.st; omega) (by have := h.few; omega), by rw [wrD_len, h.len], h.sn.wr, by rw [wrD_st hf]; have := h.st; omega, by rw [wrD_pend]; have := h.few; simp; omega⟩
theorem Pl.ba {k t : Nat} (h : Pl d k t) (hf : d.fa ≠ 1) (ht : t < 1000000) : Pl (baD d) k (t + 1) :=
  ⟨baD_ok h.ok hf (by have := h.st; omega), by rw [baD_seen, h.len], h.sn.ba, by rw [baD_st hf]; have := h.st; omega, by simp [baD]⟩
theorem Pl.cr {k t : Nat} {ks : List Int} (h : Pl d k t) : Pl (crD d ks) k (t + 1) :=
  ⟨crD_ok h.ok, by simp only [crD, crl_len]; rw [h.ok.len, h.len], rfl, by have := h.st; show d.st ≤ _; omega, by simp [crD]⟩
theorem Pl.step {k t : Nat} (h : Pl d k t) (hf : d.fa = 1) : Pl (stepD d) k (t + 1) := by
  obtain ⟨⟨h1, h2, h3, h4, h5, h6, h7, h8, h9, h10⟩, hl, hs, ht, hw⟩ := h
  unfold stepD
  rw [if_pos hf]
  exact ⟨⟨h1, h2, h3, h4, h5, h6, h7, h8, Int.le_refl _, by simp only; omega⟩, hl, hs, by simp only; omega, by simp only; omega⟩
theorem Pl.more {k t : Nat} (h : Pl d k t) : Pl d k (t + 1) := ⟨h.ok, h.len, h.sn, by have := h.st; omega, by have := h.few; omega⟩
theorem wrNo_some {e k : Int} {s : ByteArray} (h : wrNo d k s = some (e, d')) : d' = d ∨ d' = stepD d ∧ d.fa = 1 := by
  unfold wrNo at h
  split at h
  · cases h; exact .inl rfl
  split at h
  · cases h; exact .inl rfl
  split at h
  · cases h; exact .inl rfl
  split at h
  · rename_i c; cases h; exact .inr ⟨rfl, c⟩
  · cases h
theorem wrNo_none {k : Int} {s : ByteArray} (h : wrNo d k s = none) : d.off = false ∧ (∃ j : Nat, k = j ∧ j < d.seen.length) ∧ s.size ≤ 64 ∧ d.fa ≠ 1 := by
  unfold wrNo at h
  split at h
  · cases h
  rename_i c1
  split at h
  · cases h
  rename_i c2
  split at h
  · cases h
  rename_i c3
  split at h
  · cases h
  rename_i c4
  exact ⟨by simpa using c1, ⟨k.toNat, by omega, by omega⟩, by omega, c4⟩
theorem Pl.no {e k : Int} {s : ByteArray} {m t : Nat} (hP : Pl d m t) (h : wrNo d k s = some (e, d')) : Pl d' m (t + 1) ∧ d'.seen = d.seen ∧ d'.safe = d.safe ∧ d'.pend = d.pend := by
  rcases wrNo_some h with rfl | ⟨rfl, hf⟩
  · exact ⟨hP.more, rfl, rfl, rfl⟩
  · exact ⟨hP.step hf, stepD_safe.2.2, stepD_safe.1, stepD_safe.2.1⟩
def baNo (d : Fd) : Option (Int × Fd) := if d.off then some ((7 : Int), d) else if d.fa = 1 then some (7, stepD d) else none
theorem Pl.bno {e : Int} {m t : Nat} (hP : Pl d m t) (h : baNo d = some (e, d')) : Pl d' m (t + 1) ∧ d'.seen = d.seen ∧ d'.safe = d.safe ∧ d'.pend = d.pend := by
  unfold baNo at h
  split at h
  · cases h; exact ⟨hP.more, rfl, rfl, rfl⟩
  split at h
  · rename_i c; cases h; exact ⟨hP.step c, stepD_safe.2.2, stepD_safe.1, stepD_safe.2.1⟩
  · cases h
theorem baNo_none (h : baNo d = none) : d.off = false ∧ d.fa ≠ 1 := by
  unfold baNo at h
  split at h
  · cases h
  rename_i c1
  split at h
  · cases h
  rename_i c2
  exact ⟨by simpa using c1, c2⟩
end
section
/- Slots: a device's writes and barriers, whatever comes of them. -/
set_option linter.unusedVariables false
set_option linter.unusedSimpArgs false
set_option maxRecDepth 100000
open Go.Proofs
variable {H : Hp} {n : Nat} {x : Nat → Option SO} {d d' : Fd} {i a b c : Nat} {u1 u2 u3 : Bool}
theorem SpecAt.sub {P : Program} {f : Nat} {args : List SV} {v v2 : SV} {H' H2 : Hp} {n' n2 : Nat} (h : SpecAt P f args H n v H' n') (hs : Sub n ⟨[(0, v2)], H2, n2⟩ ⟨[(0, v)], H', n'⟩) : SpecAt P f args H n v2 H2 n2 := by
  intro F w0 w ρ xs hH hz hl
  refine (h F w0 w ρ xs hH hz hl).mono ?_
  rintro e w' ⟨x, ρ1, rfl, hr, hlt, hH1, hx, hn⟩
  obtain ⟨ρ', hR⟩ := hs.sound (N := 1) (ρ0 := ρ) (a := ⟨#[x], []⟩) hH.pos ⟨⟨F, w0, hH1, Sup.refl hH1, trivial⟩, ⟨⟨fun t u hu => by
    simp only [lk] at hu
    split at hu
    · rename_i e; subst e; cases hu; exact ⟨⟨x, rfl, hr⟩, hlt⟩
    · cases hu⟩, rfl, rfl⟩, hx, hn⟩
  obtain ⟨⟨y, hy, hry⟩, hly⟩ := hR.a.t.get 0 v2 rfl
  simp at hy; subst hy
  exact ⟨x, ρ', rfl, hry, hly, hR.h, hR.e, hR.b⟩
def wrT (d : Fd) (k : Int) (s : ByteArray) : Int × Fd := match wrNo d k s with
  | some p => p
  | none => (0, wrD d k.toNat s)
def baT (d : Fd) : Int × Fd := match baNo d with
  | some p => p
  | none => (0, baD d)
theorem wrT_pl {k : Int} {s : ByteArray} {m t : Nat} (hP : Pl d m t) (ht : t < 1000000) : Pl (wrT d k s).2 m (t + 1) := by
  unfold wrT
  cases hw : wrNo d k s with
  | some p => exact (hP.no hw).1
  | none =>
    obtain ⟨h1, ⟨j, rfl, hj⟩, h3, h4⟩ := wrNo_none hw
    exact hP.wr (by rw [← hP.len]; exact hj) h3 h4 ht
theorem baT_pl {m t : Nat} (hP : Pl d m t) (ht : t < 1000000) : Pl (baT d).2 m (t + 1) := by
  unfold baT
  cases hw : baNo d with
  | some p => exact (hP.bno hw).1
  | none => exact hP.ba (baNo_none hw).2 ht
theorem devC : DevAt (hp3 d x) d 1 2 3 4 := ⟨rfl, rfl, rfl, rfl, by decide⟩
def devK (d : Fd) : List (Nat × Option SO) := [(1, some ⟨true, devB d 5 6 7⟩), (2, none), (3, none), (4, none), (5, some ⟨true, secB d.seen⟩), (6, some ⟨true, secB d.safe⟩), (7, some ⟨true, .pl (prow d.pend)⟩)]
theorem wrTc {k : Int} {s : ByteArray} {m t : Nat} (hP : Pl d m t) (ht : t < 1000000) :
    SpecAt Tryz.prog nFWrite [.ptr 1 0, .v (.int .i64 k), .v (.string s)] (hp3 d x) 5 (.v (.int .i64 (wrT d k s).1)) ⟨devK (wrT d k s).2, x⟩ 8 := by
  unfold wrT
  cases hw : wrNo d k s with
  | some p =>
    obtain ⟨e, d'⟩ := p
    obtain ⟨hP', hr⟩ := hP.no hw
    refine (wrF devC hP.ok hw hr).sub ?_
    refine sub_mk [(5, 2), (6, 3), (7, 4)] rfl rfl rfl ?_
    obtain ⟨h1, h2, h3⟩ := hr
    simp only [devK, devB, secB, hp3, tmSub, hpSub, objSub, eqTm, eqHp, rn, lk, SV.ren, SV.renC, SV.renB, SV.renA, ren_ints, ren_strs, ren_pl, ren_svs, SV.v.injEq, Value.int.injEq, Body.ints.injEq, SV.ptr.injEq, SV.sl.injEq, Value.string.injEq, Value.bool.injEq, List.map_cons, List.map_nil, forall_const, Nat.reduceLT, Nat.lt_add_one, imp_self, true_and, and_true, and_self, ob_some, get_mk, lk_cons, ↓reduceIte, Nat.reduceEqDiff, ne_eq, not_true_eq_false, not_false_eq_true, Nat.one_ne_zero, Nat.zero_ne_one, Nat.succ_ne_self, Nat.reduceAdd, Bool.false_eq_true, false_implies, implies_true, reduceCtorEq, h1, h2, h3]
  | none =>
    obtain ⟨h1, ⟨j, rfl, hj⟩, h3, h4⟩ := wrNo_none hw
    refine (wrW devC hP.ok hj h3 h1 h4 (by decide) rfl).sub ?_
    refine sub_mk [(5, 2), (6, 3), (7, 5)] rfl rfl rfl ?_
    simp only [devK, devB, secB, hp3, tmSub, hpSub, objSub, eqTm, eqHp, rn, lk, SV.ren, SV.renC, SV.renB, SV.renA, ren_ints, ren_strs, ren_pl, ren_svs, SV.v.injEq, Value.int.injEq, Body.ints.injEq, SV.ptr.injEq, SV.sl.injEq, Value.string.injEq, Value.bool.injEq, List.map_cons, List.map_nil, forall_const, Nat.reduceLT, Nat.lt_add_one, imp_self, true_and, and_true, and_self, ob_some, get_mk, lk_cons, ↓reduceIte, Nat.reduceEqDiff, ne_eq, not_true_eq_false, not_false_eq_true, Nat.one_ne_zero, Nat.zero_ne_one, Nat.succ_ne_self, Nat.reduceAdd, Bool.false_eq_true, false_implies, implies_true, reduceCtorEq, Int.toNat_natCast]
theorem wrTS {k : Int} {s : ByteArray} {m t : Nat} (h : DevAt H d i a b c) (hP : Pl d m t) (ht : t < 1000000) (hn : n + 3 ≤ 1000) {e : Int} (hD : wrT d k s = (e, d')) :
    SpecAt Tryz.prog nFWrite [.ptr i 0, .v (.int .i64 k), .v (.string s)] H n (.v (.int .i64 e))
      ⟨(i, some ⟨true, devB d' n (n + 1) (n + 1 + 1)⟩) :: (a, none) :: (b, none) :: (c, none) :: (n, some ⟨true, secB d'.seen⟩) :: (n + 1, some ⟨true, secB d'.safe⟩) :: (n + 1 + 1, some ⟨true, .pl (prow d'.pend)⟩) :: H.l, H.x⟩ (n + 3) := by
  obtain ⟨hi, ha, hb, hc, ⟨p1, p2, p3, p4⟩, ⟨q1, q2, q3, q4⟩, n1, n2, n3, n4, n5, n6⟩ := h
  have e1 : (wrT d k s).1 = e := by rw [hD]
  have e2 : (wrT d k s).2 = d' := by rw [hD]
  subst e1; subst e2
  have := lift (n := n) (wrTc (x := H.x) (k := k) (s := s) hP ht) [(1, i), (2, a), (3, b), (4, c)] rfl rfl rfl (by omega) rfl rfl
    ⟨sub_wr rfl p1 q1 hi rfl, sub_wr rfl p2 q2 ha rfl, sub_wr rfl p3 q3 hb rfl, sub_wr rfl p4 q4 hc rfl, trivial⟩
    (by simp [devK, devL, apartB, apart1, rn, lk, n1, n2, n3, n4, n5, n6, Ne.symm n1, Ne.symm n2, Ne.symm n3, Ne.symm n4, Ne.symm n5, Ne.symm n6]) (by simp [devK, devL, wrNZ, rn, lk]; omega) (by omega)
  exact this
theorem baTc {m t : Nat} (hP : Pl d m t) (ht : t < 1000000) :
    SpecAt Tryz.prog nFBarrier [.ptr 1 0] (hp3 d x) 5 (.v (.int .i64 (baT d).1)) ⟨devK (baT d).2, x⟩ 8 := by
  unfold baT
  cases hw : baNo d with
  | some p =>
    obtain ⟨e, d'⟩ := p
    obtain ⟨hP', hr⟩ := hP.bno hw
    refine (baF devC hw).sub ?_
    refine sub_mk [(5, 2), (6, 3), (7, 4)] rfl rfl rfl ?_
    obtain ⟨h1, h2, h3⟩ := hr
    simp only [devK, devB, secB, hp3, tmSub, hpSub, objSub, eqTm, eqHp, rn, lk, SV.ren, SV.renC, SV.renB, SV.renA, ren_ints, ren_strs, ren_pl, ren_svs, SV.v.injEq, Value.int.injEq, Body.ints.injEq, SV.ptr.injEq, SV.sl.injEq, Value.string.injEq, Value.bool.injEq, List.map_cons, List.map_nil, forall_const, Nat.reduceLT, Nat.lt_add_one, imp_self, true_and, and_true, and_self, ob_some, get_mk, lk_cons, ↓reduceIte, Nat.reduceEqDiff, ne_eq, not_true_eq_false, not_false_eq_true, Nat.one_ne_zero, Nat.zero_ne_one, Nat.succ_ne_self, Nat.reduceAdd, Bool.false_eq_true, false_implies, implies_true, reduceCtorEq, h1, h2, h3]
  | none =>
    obtain ⟨h1, h4⟩ := baNo_none hw
    refine (baW devC hP.ok h1 h4 (by decide) rfl).sub ?_
    refine sub_mk [(5, 2), (6, 3), (7, 5)] rfl rfl rfl ?_
    simp only [devK, devB, secB, hp3, tmSub, hpSub, objSub, eqTm, eqHp, rn, lk, SV.ren, SV.renC, SV.renB, SV.renA, ren_ints, ren_strs, ren_pl, ren_svs, SV.v.injEq, Value.int.injEq, Body.ints.injEq, SV.ptr.injEq, SV.sl.injEq, Value.string.injEq, Value.bool.injEq, List.map_cons, List.map_nil, forall_const, Nat.reduceLT, Nat.lt_add_one, imp_self, true_and, and_true, and_self, ob_some, get_mk, lk_cons, ↓reduceIte, Nat.reduceEqDiff, ne_eq, not_true_eq_false, not_false_eq_true, Nat.one_ne_zero, Nat.zero_ne_one, Nat.succ_ne_self, Nat.reduceAdd, Bool.false_eq_true, false_implies, implies_true, reduceCtorEq]
theorem baTS {m t : Nat} (h : DevAt H d i a b c) (hP : Pl d m t) (ht : t < 1000000) (hn : n + 3 ≤ 1000) {e : Int} (hD : baT d = (e, d')) :
    SpecAt Tryz.prog nFBarrier [.ptr i 0] H n (.v (.int .i64 e))
      ⟨(i, some ⟨true, devB d' n (n + 1) (n + 1 + 1)⟩) :: (a, none) :: (b, none) :: (c, none) :: (n, some ⟨true, secB d'.seen⟩) :: (n + 1, some ⟨true, secB d'.safe⟩) :: (n + 1 + 1, some ⟨true, .pl (prow d'.pend)⟩) :: H.l, H.x⟩ (n + 3) := by
  obtain ⟨hi, ha, hb, hc, ⟨p1, p2, p3, p4⟩, ⟨q1, q2, q3, q4⟩, n1, n2, n3, n4, n5, n6⟩ := h
  have e1 : (baT d).1 = e := by rw [hD]
  have e2 : (baT d).2 = d' := by rw [hD]
  subst e1; subst e2
  have := lift (n := n) (baTc (x := H.x) hP ht) [(1, i), (2, a), (3, b), (4, c)] rfl rfl rfl (by omega) rfl rfl
    ⟨sub_wr rfl p1 q1 hi rfl, sub_wr rfl p2 q2 ha rfl, sub_wr rfl p3 q3 hb rfl, sub_wr rfl p4 q4 hc rfl, trivial⟩
    (by simp [devK, devL, apartB, apart1, rn, lk, n1, n2, n3, n4, n5, n6, Ne.symm n1, Ne.symm n2, Ne.symm n3, Ne.symm n4, Ne.symm n5, Ne.symm n6]) (by simp [devK, devL, wrNZ, rn, lk]; omega) (by omega)
  exact this
theorem Pl.mono {k t u : Nat} (h : Pl d k t) (hu : t ≤ u) : Pl d k u := ⟨h.ok, h.len, h.sn, by have := h.st; omega, by have := h.few; omega⟩
end
section
/- Slots: where they lie, what fits, opening, headers; the steps of a write. -/
set_option linter.unusedVariables false
set_option linter.unusedSimpArgs false
set_option maxRecDepth 100000
open Go.Proofs
namespace Sl
variable {H : Hp} {n : Nat} {x : Nat → Option SO} {d d' : Fd} {i a b c : Nat} {u1 u2 u3 : Bool}
def slB (D bs r : Nat) : Body := .sv [.ptr D 0, .v (.int .i64 bs), .v (.int .i64 r)]
def slOK (slot : Int) : Bool := decide (slot = 0 ∨ slot = 1)
def atV (bs r : Nat) (slot : Int) : Int := if slot = 1 then bs + (1 + r) else if slot = 0 then bs else 0
theorem satS {D bs r : Nat} {slot : Int} {w : Bool} (hg : H.get i = some ⟨w, slB D bs r⟩) (hb : bs ≤ 4096) (hr : r ≤ 128) :
    SpecAt Tryz.prog nSAt [.ptr i 0, .v (.int .i64 slot)] H n (.tup [.v (.int .i64 (atV bs r slot)), .v (.bool (slOK slot))]) H n := okT.pure tSAt (by
  unfold mSAt
  unfold slB at hg
  simp -implicitDefEqProofs only [↓fnVC, initTm]
  by_cases h0 : slot = 0
  · subst h0
    have w1 : IntKind.i64.wrap (1 + (r : Int)) = 1 + (r : Int) := wrap_i64 (by omega) (by omega)
    have w2 : IntKind.i64.wrap (0 * (1 + (r : Int))) = 0 := by rw [Int.zero_mul]; rfl
    have w3 : IntKind.i64.wrap ((bs : Int) + 0) = bs := by rw [Int.add_zero]; exact wrap_i64 (by omega) (by omega)
    simp -implicitDefEqProofs only [go_sem, hg, w1, w2, w3]
    rfl
  by_cases h1 : slot = 1
  · subst h1
    have w1 : IntKind.i64.wrap (1 + (r : Int)) = 1 + (r : Int) := wrap_i64 (by omega) (by omega)
    have w2 : IntKind.i64.wrap (1 * (1 + (r : Int))) = 1 + r := by rw [Int.one_mul]; exact w1
    have w3 : IntKind.i64.wrap ((bs : Int) + (1 + r)) = bs + (1 + r) := wrap_i64 (by omega) (by omega)
    simp -implicitDefEqProofs only [go_sem, hg, w1, w2, w3]
    rfl
  · have e1 : slOK slot = false := decide_eq_false (by omega)
    have e2 : atV bs r slot = 0 := by unfold atV; rw [if_neg h1, if_neg h0]
    rw [e1, e2]
    by_cases h2 : slot < 0
    · have a1 := decide_eq_true h2
      simp -implicitDefEqProofs only [go_sem, hg, a1]
    · have a1 := decide_eq_false h2
      have a2 : decide (slot > 1) = true := decide_eq_true (by omega)
      simp -implicitDefEqProofs only [go_sem, hg, a1, a2])
def fitB (r : Nat) (k : Int) : Bool := decide (k ≤ 8192 ∧ k ≤ r * 64)
theorem fitsS {D bs r : Nat} {k : Int} {w : Bool} (hg : H.get i = some ⟨w, slB D bs r⟩) (hr : r ≤ 128) :
    SpecAt Tryz.prog nSFits [.ptr i 0, .v (.int .i64 k)] H n (.v (.bool (fitB r k))) H n := okT.pure tSFits (by
  unfold mSFits
  unfold slB at hg
  have w1 : IntKind.i64.wrap ((r : Int) * 64) = r * 64 := wrap_i64 (by omega) (by omega)
  simp -implicitDefEqProofs only [↓fnVC, initTm]
  by_cases h0 : k ≤ 8192
  · have a0 := decide_eq_true h0
    have e1 : fitB r k = decide (k ≤ (r : Int) * 64) := by unfold fitB; simp [h0]
    rw [e1]
    simp -implicitDefEqProofs only [go_sem, hg, a0, w1]
  · have a0 := decide_eq_false h0
    have e1 : fitB r k = false := decide_eq_false (by omega)
    rw [e1]
    simp -implicitDefEqProofs only [go_sem, hg, a0])
def opP (m : Nat) (bs r : Int) : Prop := 0 ≤ bs ∧ 1 ≤ r ∧ r ≤ 128 ∧ bs + 2 * (1 + r) ≤ m
instance {m : Nat} {bs r : Int} : Decidable (opP m bs r) := by unfold opP; infer_instance
theorem openW {bs r : Nat} (hl : d.seen.length ≤ 4096) (hP : opP d.seen.length bs r) (ho : d.off = false) :
    fnVC CT mSOpen [.ptr 1 0, .v (.int .i64 bs), .v (.int .i64 r)] (hp3 d x) 5 fun v H' n' => Sub 5 ⟨[(0, .tup [.ptr 5 0, .v (.int .i64 0)])], ⟨devL d 1 2 3 4 [(5, some ⟨true, slB 1 bs r⟩)], x⟩, 6⟩ ⟨[(0, v)], H', n'⟩ := by
  unfold mSOpen
  unfold opP at hP
  have a0 : decide ((bs : Int) < 0) = false := decide_eq_false (by omega)
  have a1 : decide ((r : Int) < 1) = false := decide_eq_false (by omega)
  have a2 : decide ((r : Int) > 128) = false := decide_eq_false (by omega)
  have w1 : IntKind.i64.wrap (1 + (r : Int)) = 1 + r := wrap_i64 (by omega) (by omega)
  have w2 : IntKind.i64.wrap (2 * (1 + (r : Int))) = 2 * (1 + r) := wrap_i64 (by omega) (by omega)
  have w3 : IntKind.i64.wrap ((d.seen.length : Int) - 2 * (1 + r)) = (d.seen.length : Int) - 2 * (1 + r) := wrap_i64 (by omega) (by omega)
  have a3 : decide ((bs : Int) > (d.seen.length : Int) - 2 * (1 + r)) = false := decide_eq_false (by omega)
  unfold hp3
  simp -implicitDefEqProofs only [↓fnVC, initTm]
  simp -implicitDefEqProofs only [go_sem, a0, a1, a2]
  refine at_call tFSectors (seS (d := d) (a := 2) (b := 3) (c := 4) (by rfl)) ?_
  simp -implicitDefEqProofs only [go_sem, w1, w2, w3, a3]
  refine at_call tFOff (offS (d := d) (a := 2) (b := 3) (c := 4) (by rfl)) ?_
  simp -implicitDefEqProofs only [go_sem, ho]
  refine sub_mk [] rfl rfl rfl ?_
  simp only [tmSub, hpSub, objSub, eqTm, eqHp, rn, lk, SV.ren, SV.renC, SV.renB, SV.renA, ren_ints, ren_strs, ren_pl, ren_svs, SV.v.injEq, Value.int.injEq, Body.ints.injEq, SV.ptr.injEq, SV.sl.injEq, Value.string.injEq, Value.bool.injEq, List.map_cons, List.map_nil, forall_const, Nat.reduceLT, Nat.lt_add_one, imp_self, true_and, and_true, and_self, ob_some, get_mk, lk_cons, ↓reduceIte, Nat.reduceEqDiff, ne_eq, not_true_eq_false, not_false_eq_true, Nat.one_ne_zero, Nat.zero_ne_one, Nat.succ_ne_self, Nat.reduceAdd, Bool.false_eq_true, false_implies, implies_true, reduceCtorEq, slB, devB, devL, secB]
  rfl
theorem openS {bs r : Nat} (h : DevAt H d i a b c) (hl : d.seen.length ≤ 4096) (hP : opP d.seen.length bs r) (ho : d.off = false) (hn : n < 1000) :
    SpecAt Tryz.prog nSOpen [.ptr i 0, .v (.int .i64 bs), .v (.int .i64 r)] H n (.tup [.ptr n 0, .v (.int .i64 0)]) ⟨devL d i a b c ((n, some ⟨true, slB i bs r⟩) :: H.l), H.x⟩ (n + 1) := by
  obtain ⟨hi, ha, hb, hc, ⟨p1, p2, p3, p4⟩, ⟨q1, q2, q3, q4⟩, n1, n2, n3, n4, n5, n6⟩ := h
  have := lift (n := n) (okT.spec tSOpen (openW (x := H.x) hl hP ho)) [(1, i), (2, a), (3, b), (4, c)] rfl rfl rfl (by omega) rfl rfl
    ⟨sub_wr rfl p1 q1 hi rfl, sub_wr rfl p2 q2 ha rfl, sub_wr rfl p3 q3 hb rfl, sub_wr rfl p4 q4 hc rfl, trivial⟩
    (by simp [apartB, apart1, rn, lk, n1, n2, n3, n4, n5, n6, Ne.symm n1, Ne.symm n2, Ne.symm n3, Ne.symm n4, Ne.symm n5, Ne.symm n6]) (by simp [wrNZ, rn, lk]; omega) (by omega)
  exact this
def hdrL (v : Nat) (I : ByteArray) : List Int := be v 1 ++ be I.size 4 ++ bts (sha (bts I)) ++ be v 1
def hdrT (v : Nat) (I : ByteArray) : ByteArray := tx (hdrL v I)
theorem hdr_size {v : Nat} {I : ByteArray} : (hdrT v I).size = 38 := by
  unfold hdrT hdrL
  simp only [tx_sz, List.length_append, be_len, bts_len, sha_size]
theorem sum1S {i : Nat} {s : ByteArray} (hr : rowAt H i (.strs []) = some (.strs [s])) (hs : s.size ≤ 1073741824) : SpecAt Tryz.prog 102 [.sl i 0 1 1] H n (.v (.string (sha (bts s)))) H n := by
  have hc : catb (([s].drop 0).take 1) = bts s := by simp [catb]
  have hk := sumS (n := n) (o := 0) (m := 1) hr (by show 0 + 1 ≤ 1; decide) (by decide) (by rw [hc, bts_len]; omega)
  rw [hc] at hk
  exact hk
end Sl
end
section
/- Slots: a write, step by step. -/
set_option linter.unusedVariables false
set_option linter.unusedSimpArgs false
set_option maxRecDepth 100000
open Go.Proofs
namespace Sl
variable {H : Hp} {n : Nat} {x : Nat → Option SO} {d d' : Fd} {i a b c : Nat} {u1 u2 u3 : Bool}
def thn (p : Int × Fd) (f : Fd → Int × Fd) : Int × Fd := if p.1 = 0 then f p.2 else p
theorem thn_ok {p : Int × Fd} {f : Fd → Int × Fd} (h : p.1 = 0) : thn p f = f p.2 := if_pos h
theorem thn_no {p : Int × Fd} {f : Fd → Int × Fd} (h : p.1 ≠ 0) : thn p f = p := if_neg h
theorem thn_pl {p : Int × Fd} {f : Fd → Int × Fd} {m t : Nat} (hP : Pl p.2 m t) (hf : Pl p.2 m t → Pl (f p.2).2 m (t + 1)) : Pl (thn p f).2 m (t + 1) := by
  unfold thn; split
  · exact hf hP
  · exact hP.more
def chk (I : ByteArray) (j : Nat) : ByteArray := I.extract (64 * j) (min (64 * j + 64) I.size)
def cws (at_ : Int) (I : ByteArray) (p : Int × Fd) : Nat → Int × Fd
  | 0 => p
  | j + 1 => thn (cws at_ I p j) fun d => wrT d (at_ + 1 + j) (chk I j)
def nCh (I : ByteArray) : Nat := (I.size + 63) / 64
def p1 (at_ : Int) (d : Fd) : Int × Fd := thn (wrT d at_ ⟨#[]⟩) baT
def pC (at_ : Int) (I : ByteArray) (d : Fd) (j : Nat) : Int × Fd := cws at_ I (p1 at_ d) j
def p2 (at_ : Int) (I : ByteArray) (d : Fd) : Int × Fd := thn (pC at_ I d (nCh I)) baT
def p3 (at_ : Int) (v : Nat) (I : ByteArray) (d : Fd) : Int × Fd := thn (p2 at_ I d) fun d => wrT d at_ (hdrT v I)
def slW (at_ : Int) (v : Nat) (I : ByteArray) (d : Fd) : Int × Fd := thn (p3 at_ v I d) baT
theorem p1_pl {at_ : Int} {m t : Nat} (hP : Pl d m t) (ht : t + 1000 < 1000000) : Pl (p1 at_ d).2 m (t + 2) :=
  thn_pl (wrT_pl hP (by omega)) fun h => baT_pl h (by omega)
theorem pC_pl {at_ : Int} {I : ByteArray} {m t : Nat} (hP : Pl d m t) (ht : t + 1000 < 1000000) : ∀ {j}, j ≤ 200 → Pl (pC at_ I d j).2 m (t + 2 + j)
  | 0, _ => p1_pl hP ht
  | j + 1, h => thn_pl (pC_pl hP ht (by omega)) fun h => wrT_pl h (by show t + 2 + j < 1000000; omega)
theorem nCh_lt {I : ByteArray} {j : Nat} : j < nCh I ↔ 64 * j < I.size := by unfold nCh; omega
theorem nCh_le {I : ByteArray} (h : I.size ≤ 8192) : nCh I ≤ 128 := by unfold nCh; omega
theorem p2_pl {at_ : Int} {I : ByteArray} {m t : Nat} (hP : Pl d m t) (ht : t + 1000 < 1000000) (hI : I.size ≤ 8192) : Pl (p2 at_ I d).2 m (t + 131) := by
  have h1 := pC_pl (at_ := at_) (I := I) hP ht (j := nCh I) (by have := nCh_le hI; omega)
  have h2 := thn_pl h1 (f := baT) fun h => baT_pl h (by have := nCh_le hI; omega)
  exact h2.mono (by have := nCh_le hI; omega)
theorem p3_pl {at_ : Int} {v : Nat} {I : ByteArray} {m t : Nat} (hP : Pl d m t) (ht : t + 1000 < 1000000) (hI : I.size ≤ 8192) : Pl (p3 at_ v I d).2 m (t + 132) :=
  thn_pl (p2_pl hP ht hI) fun h => wrT_pl h (by omega)
theorem slW_pl {at_ : Int} {v : Nat} {I : ByteArray} {m t : Nat} (hP : Pl d m t) (ht : t + 1000 < 1000000) (hI : I.size ≤ 8192) : Pl (slW at_ v I d).2 m (t + 133) :=
  thn_pl (p3_pl hP ht hI) fun h => baT_pl h (by omega)
def stH (e : Int) (d : Fd) (bs r : Nat) (x : Nat → Option SO) : Hp := ⟨(1, some ⟨true, .sv [.v (.int .i64 e)]⟩) :: (2, some ⟨false, .sv [.ptr 3 0]⟩) :: (3, some ⟨false, slB 4 bs r⟩) :: devL d 4 5 6 7 [], x⟩
def stL (e : Int) (d : Fd) : List (Nat × Option SO) := [(1, some ⟨true, .sv [.v (.int .i64 e)]⟩), (4, some ⟨true, devB d 8 9 10⟩), (5, none), (6, none), (7, none), (8, some ⟨true, secB d.seen⟩), (9, some ⟨true, secB d.safe⟩), (10, some ⟨true, .pl (prow d.pend)⟩)]
theorem sw1W {p : Int × Fd} {bs r : Nat} {k : Int} {s : ByteArray} {m t : Nat} (hP : Pl p.2 m t) (ht : t < 1000000) :
    fnVC CT mSWrite1 [.v (.int .i64 k), .v (.string s), .ptr 1 0, .ptr 2 0] (stH p.1 p.2 bs r x) 8 fun v H' n' => Sub 8 ⟨[(0, .tup [])], ⟨stL (thn p fun d => wrT d k s).1 (thn p fun d => wrT d k s).2, x⟩, 11⟩ ⟨[(0, v)], H', n'⟩ := by
  obtain ⟨e, d⟩ := p
  unfold mSWrite1 stH devL slB devB
  simp -implicitDefEqProofs only [↓fnVC, initTm]
  by_cases h0 : e = 0
  · subst h0
    rw [thn_ok rfl]
    simp -implicitDefEqProofs only [go_sem]
    generalize hw : wrT d k s = q
    obtain ⟨e', d'⟩ := q
    refine at_call tFWrite (wrTS (i := 4) (a := 5) (b := 6) (c := 7) (d := d) ⟨by rfl, by rfl, by rfl, by rfl, by decide⟩ hP ht (by decide) hw) ?_
    unfold devB
    simp -implicitDefEqProofs only [go_sem]
    refine sub_mk [] rfl rfl rfl ?_
    simp only [tmSub, hpSub, objSub, eqTm, eqHp, rn, lk, SV.ren, SV.renC, SV.renB, SV.renA, ren_ints, ren_strs, ren_pl, ren_svs, SV.v.injEq, Value.int.injEq, Body.ints.injEq, SV.ptr.injEq, SV.sl.injEq, Value.string.injEq, Value.bool.injEq, List.map_cons, List.map_nil, forall_const, Nat.reduceLT, Nat.lt_add_one, imp_self, true_and, and_true, and_self, ob_some, get_mk, lk_cons, ↓reduceIte, Nat.reduceEqDiff, ne_eq, not_true_eq_false, not_false_eq_true, Nat.one_ne_zero, Nat.zero_ne_one, Nat.succ_ne_self, Nat.reduceAdd, Bool.false_eq_true, false_implies, implies_true, reduceCtorEq, stL, devB]
    exact ⟨rfl, rfl⟩
  · have a0 : decide (e = 0) = false := decide_eq_false h0
    rw [thn_no h0]
    simp -implicitDefEqProofs only [go_sem, a0]
    refine sub_mk [(8, 5), (9, 6), (10, 7)] rfl rfl rfl ?_
    simp only [tmSub, hpSub, objSub, eqTm, eqHp, rn, lk, SV.ren, SV.renC, SV.renB, SV.renA, ren_ints, ren_strs, ren_pl, ren_svs, SV.v.injEq, Value.int.injEq, Body.ints.injEq, SV.ptr.injEq, SV.sl.injEq, Value.string.injEq, Value.bool.injEq, List.map_cons, List.map_nil, forall_const, Nat.reduceLT, Nat.lt_add_one, imp_self, true_and, and_true, and_self, ob_some, get_mk, lk_cons, ↓reduceIte, Nat.reduceEqDiff, ne_eq, not_true_eq_false, not_false_eq_true, Nat.one_ne_zero, Nat.zero_ne_one, Nat.succ_ne_self, Nat.reduceAdd, Bool.false_eq_true, false_implies, implies_true, reduceCtorEq, stL, devB]
    exact ⟨rfl, rfl⟩
theorem sw2W {p : Int × Fd} {bs r : Nat} {m t : Nat} (hP : Pl p.2 m t) (ht : t < 1000000) :
    fnVC CT mSWrite2 [.ptr 1 0, .ptr 2 0] (stH p.1 p.2 bs r x) 8 fun v H' n' => Sub 8 ⟨[(0, .tup [])], ⟨stL (thn p baT).1 (thn p baT).2, x⟩, 11⟩ ⟨[(0, v)], H', n'⟩ := by
  obtain ⟨e, d⟩ := p
  unfold mSWrite2 stH devL slB devB
  simp -implicitDefEqProofs only [↓fnVC, initTm]
  by_cases h0 : e = 0
  · subst h0
    rw [thn_ok rfl]
    simp -implicitDefEqProofs only [go_sem]
    generalize hw : baT d = q
    obtain ⟨e', d'⟩ := q
    refine at_call tFBarrier (baTS (i := 4) (a := 5) (b := 6) (c := 7) (d := d) ⟨by rfl, by rfl, by rfl, by rfl, by decide⟩ hP ht (by decide) hw) ?_
    unfold devB
    simp -implicitDefEqProofs only [go_sem]
    refine sub_mk [] rfl rfl rfl ?_
    simp only [tmSub, hpSub, objSub, eqTm, eqHp, rn, lk, SV.ren, SV.renC, SV.renB, SV.renA, ren_ints, ren_strs, ren_pl, ren_svs, SV.v.injEq, Value.int.injEq, Body.ints.injEq, SV.ptr.injEq, SV.sl.injEq, Value.string.injEq, Value.bool.injEq, List.map_cons, List.map_nil, forall_const, Nat.reduceLT, Nat.lt_add_one, imp_self, true_and, and_true, and_self, ob_some, get_mk, lk_cons, ↓reduceIte, Nat.reduceEqDiff, ne_eq, not_true_eq_false, not_false_eq_true, Nat.one_ne_zero, Nat.zero_ne_one, Nat.succ_ne_self, Nat.reduceAdd, Bool.false_eq_true, false_implies, implies_true, reduceCtorEq, stL, devB]
    exact ⟨rfl, rfl⟩
  · have a0 : decide (e = 0) = false := decide_eq_false h0
    rw [thn_no h0]
    simp -implicitDefEqProofs only [go_sem, a0]
    refine sub_mk [(8, 5), (9, 6), (10, 7)] rfl rfl rfl ?_
    simp only [tmSub, hpSub, objSub, eqTm, eqHp, rn, lk, SV.ren, SV.renC, SV.renB, SV.renA, ren_ints, ren_strs, ren_pl, ren_svs, SV.v.injEq, Value.int.injEq, Body.ints.injEq, SV.ptr.injEq, SV.sl.injEq, Value.string.injEq, Value.bool.injEq, List.map_cons, List.map_nil, forall_const, Nat.reduceLT, Nat.lt_add_one, imp_self, true_and, and_true, and_self, ob_some, get_mk, lk_cons, ↓reduceIte, Nat.reduceEqDiff, ne_eq, not_true_eq_false, not_false_eq_true, Nat.one_ne_zero, Nat.zero_ne_one, Nat.succ_ne_self, Nat.reduceAdd, Bool.false_eq_true, false_implies, implies_true, reduceCtorEq, stL, devB]
    exact ⟨rfl, rfl⟩
structure StAt (H : Hp) (e : Int) (d : Fd) (bs r j1 j2 j3 i a b c : Nat) : Prop where
  g1 : H.get j1 = some ⟨true, .sv [.v (.int .i64 e)]⟩
  g2 : ∃ w, H.get j2 = some ⟨w, .sv [.ptr j3 0]⟩
  g3 : ∃ w, H.get j3 = some ⟨w, slB i bs r⟩
  gi : H.get i = some ⟨true, devB d a b c⟩
  ga : H.get a = some ⟨true, secB d.seen⟩
  gb : H.get b = some ⟨true, secB d.safe⟩
  gc : H.get c = some ⟨true, .pl (prow d.pend)⟩
  ne : ([j1, j2, j3, i, a, b, c].all fun k => decide (0 < k ∧ k < 1000)) = true
  ap : ∀ x, apartB [(1, j1), (2, j2), (3, j3), (4, i), (5, a), (6, b), (7, c)] (stH e d bs r x).l (stH e d bs r x).l = true
  nz : ∀ x, wrNZ [(1, j1), (2, j2), (3, j3), (4, i), (5, a), (6, b), (7, c)] (stH e d bs r x).l = true
theorem StAt.sub {e : Int} {bs r j1 j2 j3 : Nat} (h : StAt H e d bs r j1 j2 j3 i a b c) : hpSub [(1, j1), (2, j2), (3, j3), (4, i), (5, a), (6, b), (7, c)] H (stH e d bs r H.x).l := by
  obtain ⟨g1, ⟨w2, g2⟩, ⟨w3, g3⟩, gi, ga, gb, gc, hp, _, _⟩ := h
  simp at hp
  exact ⟨sub_wr rfl hp.1.1 hp.1.2 g1 rfl, sub_ro rfl hp.2.1.1 g2 rfl, sub_ro rfl hp.2.2.1.1 g3 rfl, sub_wr rfl hp.2.2.2.1.1 hp.2.2.2.1.2 gi rfl, sub_wr rfl hp.2.2.2.2.1.1 hp.2.2.2.2.1.2 ga rfl, sub_wr rfl hp.2.2.2.2.2.1.1 hp.2.2.2.2.2.1.2 gb rfl, sub_wr rfl hp.2.2.2.2.2.2.1 hp.2.2.2.2.2.2.2 gc rfl, trivial⟩
def stF (e : Int) (d : Fd) (n j1 i a b c : Nat) (l : List (Nat × Option SO)) : List (Nat × Option SO) := (j1, some ⟨true, .sv [.v (.int .i64 e)]⟩) :: (i, some ⟨true, devB d n (n + 1) (n + 1 + 1)⟩) :: (a, none) :: (b, none) :: (c, none) :: (n, some ⟨true, secB d.seen⟩) :: (n + 1, some ⟨true, secB d.safe⟩) :: (n + 1 + 1, some ⟨true, .pl (prow d.pend)⟩) :: l
theorem stF_eq {e : Int} {d : Fd} {n j1 i a b c : Nat} {l : List (Nat × Option SO)} : stF e d n j1 i a b c l = (j1, some ⟨true, .sv [.v (.int .i64 e)]⟩) :: (i, some ⟨true, devB d n (n + 1) (n + 1 + 1)⟩) :: (a, none) :: (b, none) :: (c, none) :: (n, some ⟨true, secB d.seen⟩) :: (n + 1, some ⟨true, secB d.safe⟩) :: (n + 1 + 1, some ⟨true, .pl (prow d.pend)⟩) :: l := rfl
theorem sw1S {p q : Int × Fd} {bs r j1 j2 j3 : Nat} {k : Int} {s : ByteArray} {m t : Nat} (h : StAt H p.1 p.2 bs r j1 j2 j3 i a b c) (hP : Pl p.2 m t) (ht : t < 1000000) (hn : n + 3 ≤ 1000) (hq : (thn p fun d => wrT d k s) = q) :
    SpecAt Tryz.prog nSWrite1 [.v (.int .i64 k), .v (.string s), .ptr j1 0, .ptr j2 0] H n (.tup []) ⟨stF q.1 q.2 n j1 i a b c H.l, H.x⟩ (n + 3) := by
  subst hq
  have := lift (n := n) (okT.spec tSWrite1 (sw1W (x := H.x) (bs := bs) (r := r) (k := k) (s := s) hP ht)) [(1, j1), (2, j2), (3, j3), (4, i), (5, a), (6, b), (7, c)] rfl rfl rfl (by omega) rfl rfl h.sub
    (h.ap H.x) (h.nz H.x) (by omega)
  exact this
theorem sw2S {p q : Int × Fd} {bs r j1 j2 j3 : Nat} {m t : Nat} (h : StAt H p.1 p.2 bs r j1 j2 j3 i a b c) (hP : Pl p.2 m t) (ht : t < 1000000) (hn : n + 3 ≤ 1000) (hq : thn p baT = q) :
    SpecAt Tryz.prog nSWrite2 [.ptr j1 0, .ptr j2 0] H n (.tup []) ⟨stF q.1 q.2 n j1 i a b c H.l, H.x⟩ (n + 3) := by
  subst hq
  have := lift (n := n) (okT.spec tSWrite2 (sw2W (x := H.x) (bs := bs) (r := r) hP ht)) [(1, j1), (2, j2), (3, j3), (4, i), (5, a), (6, b), (7, c)] rfl rfl rfl (by omega) rfl rfl h.sub
    (h.ap H.x) (h.nz H.x) (by omega)
  exact this
end Sl
end
section
/- Slots: the program's Write. -/
set_option linter.unusedVariables false
set_option linter.unusedSimpArgs false
set_option maxRecDepth 100000
open Go.Proofs
namespace Sl
variable {H : Hp} {n : Nat} {x : Nat → Option SO} {d d' : Fd} {i a b c : Nat} {u1 u2 u3 : Bool}
def swE (r : Nat) (slot ver : Int) (I : ByteArray) : Int := if slOK slot = false ∨ ver < 1 ∨ 255 < ver ∨ I = ⟨#[]⟩ then 1 else if 8192 < I.size ∨ r * 64 < I.size then 4 else 0
def swR (bs r : Nat) (slot ver : Int) (I : ByteArray) (d : Fd) : Int × Fd := if swE r slot ver I = 0 then slW (atV bs r slot) ver.toNat I d else (swE r slot ver I, d)
def swH (d : Fd) (bs r : Nat) (x : Nat → Option SO) : Hp := ⟨(1, some ⟨false, slB 2 bs r⟩) :: devL d 2 3 4 5 [], x⟩
def swL (d : Fd) : List (Nat × Option SO) := [(2, some ⟨true, devB d 6 7 8⟩), (3, none), (4, none), (5, none), (6, some ⟨true, secB d.seen⟩), (7, some ⟨true, secB d.safe⟩), (8, some ⟨true, .pl (prow d.pend)⟩)]
theorem swriteW {bs r : Nat} {slot ver : Int} {I : ByteArray} {m t : Nat} (hb : bs ≤ 4096) (hr : r ≤ 128) (hP : Pl d m t) (ht : t + 1000 < 1000000) :
    fnVC CT mSWrite [.ptr 1 0, .v (.int .i64 slot), .v (.int .i64 ver), .v (.string I)] (swH d bs r x) 6 fun v H' n' => Sub 6 ⟨[(0, .v (.int .i64 (swR bs r slot ver I d).1))], ⟨swL (swR bs r slot ver I d).2, x⟩, 9⟩ ⟨[(0, v)], H', n'⟩ := by
  unfold mSWrite swH devL devB slB
  simp -implicitDefEqProofs only [↓fnVC, initTm]
  simp -implicitDefEqProofs only [go_sem]
  refine at_call tSAt (satS (i := 1) (D := 2) (bs := bs) (r := r) (by rfl) hb hr) ?_
  have bad : ∀ e, e ≠ 0 → swE r slot ver I = e → swR bs r slot ver I d = (e, d) := fun e he h => by unfold swR; rw [h, if_neg he]
  by_cases h0 : slOK slot = false
  · rw [bad 1 (by decide) (if_pos (.inl h0))]
    simp -implicitDefEqProofs only [go_sem, h0]
    refine sub_mk [(6, 3), (7, 4), (8, 5)] rfl rfl rfl ?_
    simp only [tmSub, hpSub, objSub, eqTm, eqHp, rn, lk, SV.ren, SV.renC, SV.renB, SV.renA, ren_ints, ren_strs, ren_pl, ren_svs, SV.v.injEq, Value.int.injEq, Body.ints.injEq, SV.ptr.injEq, SV.sl.injEq, Value.string.injEq, Value.bool.injEq, List.map_cons, List.map_nil, forall_const, Nat.reduceLT, Nat.lt_add_one, imp_self, true_and, and_true, and_self, ob_some, get_mk, lk_cons, ↓reduceIte, Nat.reduceEqDiff, ne_eq, not_true_eq_false, not_false_eq_true, Nat.one_ne_zero, Nat.zero_ne_one, Nat.succ_ne_self, Nat.reduceAdd, Bool.false_eq_true, false_implies, implies_true, reduceCtorEq, swL, devB]
    exact ⟨rfl, rfl⟩
  have b0 : slOK slot = true := by simpa using h0
  by_cases h1 : ver < 1
  · have a1 := decide_eq_true h1
    rw [bad 1 (by decide) (if_pos (.inr (.inl h1)))]
    simp -implicitDefEqProofs only [go_sem, b0, a1]
    refine sub_mk [(6, 3), (7, 4), (8, 5)] rfl rfl rfl ?_
    simp only [tmSub, hpSub, objSub, eqTm, eqHp, rn, lk, SV.ren, SV.renC, SV.renB, SV.renA, ren_ints, ren_strs, ren_pl, ren_svs, SV.v.injEq, Value.int.injEq, Body.ints.injEq, SV.ptr.injEq, SV.sl.injEq, Value.string.injEq, Value.bool.injEq, List.map_cons, List.map_nil, forall_const, Nat.reduceLT, Nat.lt_add_one, imp_self, true_and, and_true, and_self, ob_some, get_mk, lk_cons, ↓reduceIte, Nat.reduceEqDiff, ne_eq, not_true_eq_false, not_false_eq_true, Nat.one_ne_zero, Nat.zero_ne_one, Nat.succ_ne_self, Nat.reduceAdd, Bool.false_eq_true, false_implies, implies_true, reduceCtorEq, swL, devB]
    exact ⟨rfl, rfl⟩
  have a1 := decide_eq_false h1
  by_cases h2 : ver > 255
  · have a2 := decide_eq_true h2
    rw [bad 1 (by decide) (if_pos (.inr (.inr (.inl h2))))]
    simp -implicitDefEqProofs only [go_sem, b0, a1, a2]
    refine sub_mk [(6, 3), (7, 4), (8, 5)] rfl rfl rfl ?_
    simp only [tmSub, hpSub, objSub, eqTm, eqHp, rn, lk, SV.ren, SV.renC, SV.renB, SV.renA, ren_ints, ren_strs, ren_pl, ren_svs, SV.v.injEq, Value.int.injEq, Body.ints.injEq, SV.ptr.injEq, SV.sl.injEq, Value.string.injEq, Value.bool.injEq, List.map_cons, List.map_nil, forall_const, Nat.reduceLT, Nat.lt_add_one, imp_self, true_and, and_true, and_self, ob_some, get_mk, lk_cons, ↓reduceIte, Nat.reduceEqDiff, ne_eq, not_true_eq_false, not_false_eq_true, Nat.one_ne_zero, Nat.zero_ne_one, Nat.succ_ne_self, Nat.reduceAdd, Bool.false_eq_true, false_implies, implies_true, reduceCtorEq, swL, devB]
    exact ⟨rfl, rfl⟩
  have a2 := decide_eq_false h2
  by_cases h3 : I = ⟨#[]⟩
  · have a3 : seq I ⟨#[]⟩ = true := by rw [h3]; exact seq_self _
    rw [bad 1 (by decide) (if_pos (.inr (.inr (.inr h3))))]
    simp -implicitDefEqProofs only [go_sem, b0, a1, a2, a3]
    refine sub_mk [(6, 3), (7, 4), (8, 5)] rfl rfl rfl ?_
    simp only [tmSub, hpSub, objSub, eqTm, eqHp, rn, lk, SV.ren, SV.renC, SV.renB, SV.renA, ren_ints, ren_strs, ren_pl, ren_svs, SV.v.injEq, Value.int.injEq, Body.ints.injEq, SV.ptr.injEq, SV.sl.injEq, Value.string.injEq, Value.bool.injEq, List.map_cons, List.map_nil, forall_const, Nat.reduceLT, Nat.lt_add_one, imp_self, true_and, and_true, and_self, ob_some, get_mk, lk_cons, ↓reduceIte, Nat.reduceEqDiff, ne_eq, not_true_eq_false, not_false_eq_true, Nat.one_ne_zero, Nat.zero_ne_one, Nat.succ_ne_self, Nat.reduceAdd, Bool.false_eq_true, false_implies, implies_true, reduceCtorEq, swL, devB]
    exact ⟨rfl, rfl⟩
  have a3 : seq I ⟨#[]⟩ = false := seq_ne h3
  simp -implicitDefEqProofs only [go_sem, b0, a1, a2, a3]
  refine at_call tSFits (fitsS (i := 1) (D := 2) (bs := bs) (r := r) (by rfl) hr) ?_
  by_cases h4 : 8192 < I.size ∨ r * 64 < I.size
  · have a4 : fitB r (I.size : Int) = false := decide_eq_false (by omega)
    rw [bad 4 (by decide) (by unfold swE; rw [if_neg (by simp [b0, h1, h3]; omega), if_pos h4])]
    simp -implicitDefEqProofs only [go_sem, a4]
    refine sub_mk [(6, 3), (7, 4), (8, 5)] rfl rfl rfl ?_
    simp only [tmSub, hpSub, objSub, eqTm, eqHp, rn, lk, SV.ren, SV.renC, SV.renB, SV.renA, ren_ints, ren_strs, ren_pl, ren_svs, SV.v.injEq, Value.int.injEq, Body.ints.injEq, SV.ptr.injEq, SV.sl.injEq, Value.string.injEq, Value.bool.injEq, List.map_cons, List.map_nil, forall_const, Nat.reduceLT, Nat.lt_add_one, imp_self, true_and, and_true, and_self, ob_some, get_mk, lk_cons, ↓reduceIte, Nat.reduceEqDiff, ne_eq, not_true_eq_false, not_false_eq_true, Nat.one_ne_zero, Nat.zero_ne_one, Nat.succ_ne_self, Nat.reduceAdd, Bool.false_eq_true, false_implies, implies_true, reduceCtorEq, swL, devB]
    exact ⟨rfl, rfl⟩
  have a4 : fitB r (I.size : Int) = true := decide_eq_true (by omega)
  have good : swE r slot ver I = 0 := by unfold swE; rw [if_neg (by simp [b0, h1, h3]; omega), if_neg h4]
  obtain ⟨ver, rfl⟩ : ∃ k : Nat, ver = k := ⟨ver.toNat, by omega⟩
  have hgood : swR bs r slot ver I d = slW (atV bs r slot) ver I d := by unfold swR; rw [if_pos good, Int.toNat_natCast]
  rw [hgood]
  clear bad good hgood
  have hI : I.size ≤ 8192 := by omega
  have hat : 0 ≤ atV bs r slot ∧ atV bs r slot ≤ 4300 := by unfold atV; split <;> (try split) <;> omega
  generalize atV bs r slot = at_ at hat ⊢
  simp -implicitDefEqProofs only [go_sem, a4]
  refine in_call mixT tWByte ?_
  unfold mWByte
  simp -implicitDefEqProofs only [↓fnVC, initTm]
  simp -implicitDefEqProofs only [go_sem]
  refine at_call tWNumber (wNum0S (i := 7) (y := ver) (k := 1) (bad := false) (by rfl) (by decide) (by decide) (by decide) (by omega) (fun _ => by omega)) ?_
  simp -implicitDefEqProofs only [go_sem]
  refine in_call mixT tWFour ?_
  unfold mWFour
  simp -implicitDefEqProofs only [↓fnVC, initTm]
  simp -implicitDefEqProofs only [go_sem]
  refine at_call tWNumber (wNumS (i := 7) (r := 8) (y := I.size) (k := 4) (bs := be ver 1) (bad := false) (by rfl) (by rfl) (by decide) (by decide) (by decide) (by decide) (by decide) (by omega) (fun _ => by omega) (by rw [be_len]; decide)) ?_
  simp -implicitDefEqProofs only [go_sem]
  refine at_call t9 (sum1S (s := I) (by rfl) (by omega)) ?_
  simp -implicitDefEqProofs only [go_sem]
  refine at_call tWHash (wHashS (i := 7) (r := 9) (h := sha (bts I)) (bs := be ver 1 ++ be I.size 4) (bad := false) (by rfl) (by rfl) (by decide) (by decide) (by decide) (by decide) (by simp only [List.length_append, be_len]; decide) (by rw [sha_size]; decide)) ?_
  simp -implicitDefEqProofs only [go_sem]
  refine in_call mixT tWByte ?_
  unfold mWByte
  simp -implicitDefEqProofs only [↓fnVC, initTm]
  simp -implicitDefEqProofs only [go_sem]
  refine at_call tWNumber (wNumS (i := 7) (r := 11) (y := ver) (k := 1) (bs := be ver 1 ++ be I.size 4 ++ bts (sha (bts I))) (bad := (false || decide ((sha (bts I)).size ≠ 32))) (by rfl) (by rfl) (by decide) (by decide) (by decide) (by decide) (by decide) (by omega) (fun _ => by omega) (by simp only [List.length_append, be_len, bts_len, sha_size]; decide)) ?_
  simp -implicitDefEqProofs only [go_sem]
  refine at_call tWBytes (wBytesS (i := 7) (r := 12) (bs := be ver 1 ++ be I.size 4 ++ bts (sha (bts I)) ++ be ver 1) (bad := (false || decide ((sha (bts I)).size ≠ 32))) (by rfl) (by rfl) (by decide) rfl) ?_
  have e0 : (false || decide ((sha (bts I)).size ≠ 32)) = false := by rw [sha_size]; rfl
  rw [e0, if_neg Bool.false_ne_true]
  have eh : tx (be ver 1 ++ be I.size 4 ++ bts (sha (bts I)) ++ be ver 1) = hdrT ver I := rfl
  rw [eh]
  simp -implicitDefEqProofs only [go_sem, List.isEmpty_cons, Bool.false_eq_true, if_false]
  refine at_call tSWrite1 (sw1S (p := (0, d)) (bs := bs) (r := r) (j1 := 13) (j2 := 6) (j3 := 1) (i := 2) (a := 3) (b := 4) (c := 5) ⟨by rfl, ⟨_, by rfl⟩, ⟨_, by rfl⟩, by rfl, by rfl, by rfl, by rfl, by decide, fun _ => rfl, fun _ => rfl⟩ hP (by omega) (by decide) rfl) ?_
  rw [thn_ok rfl, stF_eq]
  simp -implicitDefEqProofs only [go_sem, List.isEmpty_cons, Bool.false_eq_true, if_false, devB]
  refine at_call tSWrite2 (sw2S (p := wrT d at_ ⟨#[]⟩) (bs := bs) (r := r) (j1 := 13) (j2 := 6) (j3 := 1) (i := 2) (a := 14) (b := 15) (c := 16) ⟨by rfl, ⟨_, by rfl⟩, ⟨_, by rfl⟩, by rfl, by rfl, by rfl, by rfl, by decide, fun _ => rfl, fun _ => rfl⟩ (wrT_pl hP (by omega)) (by omega) (by decide) rfl) ?_
  rw [stF_eq, show thn (wrT d at_ ⟨#[]⟩) baT = pC at_ I d 0 from rfl]
  simp -implicitDefEqProofs only [go_sem, List.isEmpty_cons, Bool.false_eq_true, if_false, devB]
  have hC := fun j (h : j ≤ nCh I) => pC_pl (at_ := at_) (I := I) hP ht (j := j) (by have := nCh_le hI; omega)
  have hN := nCh_le hI
  refine loop_fam (fun (j : Nat) => j ≤ nCh I)
    (fun j => ⟨[(2, .v (.int .i64 ver)), (3, .v (.string I)), (9, .v (.int .i64 at_)), (12, .v (.string (hdrT ver I))), (14, .ptr 13 0), (15, .fn 106 [.ptr 13 0, .ptr 6 0]), (16, .fn 107 [.ptr 13 0, .ptr 6 0]), (17, .v (.int .i64 j))], ⟨[(1, some ⟨false, slB 2 bs r⟩), (2, some ⟨true, devB (pC at_ I d j).2 17 18 19⟩), (6, some ⟨true, .sv [.ptr 1 0]⟩), (13, some ⟨true, .sv [.v (.int .i64 (pC at_ I d j).1)]⟩), (17, some ⟨true, secB (pC at_ I d j).2.seen⟩), (18, some ⟨true, secB (pC at_ I d j).2.safe⟩), (19, some ⟨true, .pl (prow (pC at_ I d j).2.pend)⟩)], x⟩, 20⟩)
    (fun j => nCh I - j) 0 (Nat.zero_le _) ?_ ?_
  · refine sub_mk [] rfl rfl rfl ?_
    simp only [tmSub, hpSub, objSub, eqTm, eqHp, rn, lk, SV.ren, SV.renC, SV.renB, SV.renA, ren_ints, ren_strs, ren_pl, ren_svs, SV.v.injEq, Value.int.injEq, Body.ints.injEq, SV.ptr.injEq, SV.sl.injEq, Value.string.injEq, Value.bool.injEq, List.map_cons, List.map_nil, forall_const, Nat.reduceLT, Nat.lt_add_one, imp_self, true_and, and_true, and_self, ob_some, get_mk, lk_cons, ↓reduceIte, Nat.reduceEqDiff, ne_eq, not_true_eq_false, not_false_eq_true, Nat.one_ne_zero, Nat.zero_ne_one, Nat.succ_ne_self, Nat.reduceAdd, Bool.false_eq_true, false_implies, implies_true, reduceCtorEq, slB, devB]
    exact ⟨rfl, rfl, rfl⟩
  · intro j hj
    have w1 : IntKind.i64.wrap ((j : Int) * 64) = ((64 * j : Nat) : Int) := by rw [wrap_i64 (by omega) (by omega)]; omega
    unfold devB slB
    simp -implicitDefEqProofs only [go_sem, w1]
    refine condK_bb (fun c => ?_) (fun c => ?_)
    · have c1 : 64 * j < I.size := by have := of_decide_eq_true c; omega
      have c2 : j < nCh I := nCh_lt.2 c1
      have w2 : IntKind.i64.wrap ((j : Int) + 1) = ((j + 1 : Nat) : Int) := by rw [wrap_i64 (by omega) (by omega)]; omega
      have w3 : IntKind.i64.wrap (((j + 1 : Nat) : Int) * 64) = ((64 * j + 64 : Nat) : Int) := by rw [wrap_i64 (by omega) (by omega)]; omega
      have w4 : min (((64 * j + 64 : Nat) : Int)) (I.size : Int) = ((min (64 * j + 64) I.size : Nat) : Int) := by omega
      have w5 : IntKind.i64.wrap (at_ + 1) = at_ + 1 := wrap_i64 (by omega) (by omega)
      have w6 : IntKind.i64.wrap (at_ + 1 + (j : Int)) = at_ + 1 + j := wrap_i64 (by omega) (by omega)
      simp -implicitDefEqProofs only [go_sem, c, w1, w2, w3, w4, w5, w6]
      refine ⟨by omega, ?_⟩
      refine at_call tSWrite1 (sw1S (p := pC at_ I d j) (bs := bs) (r := r) (j1 := 13) (j2 := 6) (j3 := 1) (i := 2) (a := 17) (b := 18) (c := 19) ⟨by rfl, ⟨_, by rfl⟩, ⟨_, by rfl⟩, by rfl, by rfl, by rfl, by rfl, by decide, fun _ => rfl, fun _ => rfl⟩ (hC j hj) (by omega) (by decide) rfl) ?_
      rw [stF_eq, show (thn (pC at_ I d j) fun d => wrT d (at_ + 1 + j) (I.extract (64 * j) (min (64 * j + 64) I.size))) = pC at_ I d (j + 1) from rfl]
      simp -implicitDefEqProofs only [go_sem, w2, devB]
      refine kLoop_mk (j + 1) (by omega) (by omega) ?_
      refine sub_mk [(17, 20), (18, 21), (19, 22)] rfl rfl rfl ?_
      simp only [tmSub, hpSub, objSub, eqTm, eqHp, rn, lk, SV.ren, SV.renC, SV.renB, SV.renA, ren_ints, ren_strs, ren_pl, ren_svs, SV.v.injEq, Value.int.injEq, Body.ints.injEq, SV.ptr.injEq, SV.sl.injEq, Value.string.injEq, Value.bool.injEq, List.map_cons, List.map_nil, forall_const, Nat.reduceLT, Nat.lt_add_one, imp_self, true_and, and_true, and_self, ob_some, get_mk, lk_cons, ↓reduceIte, Nat.reduceEqDiff, ne_eq, not_true_eq_false, not_false_eq_true, Nat.one_ne_zero, Nat.zero_ne_one, Nat.succ_ne_self, Nat.reduceAdd, Bool.false_eq_true, false_implies, implies_true, reduceCtorEq, slB, devB]
      exact ⟨rfl, rfl⟩
    · have c1 : j = nCh I := by have := of_decide_eq_false c; have := @nCh_lt I j; omega
      subst c1
      simp -implicitDefEqProofs only [go_sem, c, w1]
      refine at_call tSWrite2 (sw2S (p := pC at_ I d (nCh I)) (bs := bs) (r := r) (j1 := 13) (j2 := 6) (j3 := 1) (i := 2) (a := 17) (b := 18) (c := 19) ⟨by rfl, ⟨_, by rfl⟩, ⟨_, by rfl⟩, by rfl, by rfl, by rfl, by rfl, by decide, fun _ => rfl, fun _ => rfl⟩ (hC (nCh I) hj) (by omega) (by decide) rfl) ?_
      rw [stF_eq, show thn (pC at_ I d (nCh I)) baT = p2 at_ I d from rfl]
      simp -implicitDefEqProofs only [go_sem, devB]
      refine at_call tSWrite1 (sw1S (p := p2 at_ I d) (bs := bs) (r := r) (j1 := 13) (j2 := 6) (j3 := 1) (i := 2) (a := 20) (b := 21) (c := 22) ⟨by rfl, ⟨_, by rfl⟩, ⟨_, by rfl⟩, by rfl, by rfl, by rfl, by rfl, by decide, fun _ => rfl, fun _ => rfl⟩ (p2_pl hP ht hI) (by omega) (by decide) rfl) ?_
      rw [stF_eq, show (thn (p2 at_ I d) fun d => wrT d at_ (hdrT ver I)) = p3 at_ ver I d from rfl]
      simp -implicitDefEqProofs only [go_sem, devB]
      refine at_call tSWrite2 (sw2S (p := p3 at_ ver I d) (bs := bs) (r := r) (j1 := 13) (j2 := 6) (j3 := 1) (i := 2) (a := 23) (b := 24) (c := 25) ⟨by rfl, ⟨_, by rfl⟩, ⟨_, by rfl⟩, by rfl, by rfl, by rfl, by rfl, by decide, fun _ => rfl, fun _ => rfl⟩ (p3_pl hP ht hI) (by omega) (by decide) rfl) ?_
      rw [stF_eq, show thn (p3 at_ ver I d) baT = slW at_ ver I d from rfl]
      simp -implicitDefEqProofs only [go_sem, devB]
      refine sub_mk [(6, 26), (7, 27), (8, 28)] rfl rfl rfl ?_
      simp only [tmSub, hpSub, objSub, eqTm, eqHp, rn, lk, SV.ren, SV.renC, SV.renB, SV.renA, ren_ints, ren_strs, ren_pl, ren_svs, SV.v.injEq, Value.int.injEq, Body.ints.injEq, SV.ptr.injEq, SV.sl.injEq, Value.string.injEq, Value.bool.injEq, List.map_cons, List.map_nil, forall_const, Nat.reduceLT, Nat.lt_add_one, imp_self, true_and, and_true, and_self, ob_some, get_mk, lk_cons, ↓reduceIte, Nat.reduceEqDiff, ne_eq, not_true_eq_false, not_false_eq_true, Nat.one_ne_zero, Nat.zero_ne_one, Nat.succ_ne_self, Nat.reduceAdd, Bool.false_eq_true, false_implies, implies_true, reduceCtorEq, swL, devB]
      exact ⟨rfl, rfl⟩
theorem swR_pl {bs r : Nat} {slot ver : Int} {I : ByteArray} {m t : Nat} (hP : Pl d m t) (ht : t + 1000 < 1000000) : Pl (swR bs r slot ver I d).2 m (t + 133) := by
  unfold swR
  split
  · rename_i h
    refine slW_pl hP ht ?_
    unfold swE at h
    split at h
    · cases h
    split at h
    · cases h
    omega
  · exact hP.mono (by omega)
def devN (d : Fd) (n i a b c : Nat) (l : List (Nat × Option SO)) : List (Nat × Option SO) := (i, some ⟨true, devB d n (n + 1) (n + 1 + 1)⟩) :: (a, none) :: (b, none) :: (c, none) :: (n, some ⟨true, secB d.seen⟩) :: (n + 1, some ⟨true, secB d.safe⟩) :: (n + 1 + 1, some ⟨true, .pl (prow d.pend)⟩) :: l
theorem devN_eq {d : Fd} {n i a b c : Nat} {l : List (Nat × Option SO)} : devN d n i a b c l = (i, some ⟨true, devB d n (n + 1) (n + 1 + 1)⟩) :: (a, none) :: (b, none) :: (c, none) :: (n, some ⟨true, secB d.seen⟩) :: (n + 1, some ⟨true, secB d.safe⟩) :: (n + 1 + 1, some ⟨true, .pl (prow d.pend)⟩) :: l := rfl
theorem swriteS {bs r q : Nat} {slot ver : Int} {I : ByteArray} {m t : Nat} {w : Bool} (hb : bs ≤ 4096) (hr : r ≤ 128) (hg : H.get q = some ⟨w, slB i bs r⟩) (h : DevAt H d i a b c) (hq : 0 < q ∧ q < 1000 ∧ q ≠ i ∧ q ≠ a ∧ q ≠ b ∧ q ≠ c) (hP : Pl d m t) (ht : t + 1000 < 1000000) (hn : n + 3 ≤ 1000) {p : Int × Fd} (hp : swR bs r slot ver I d = p) :
    SpecAt Tryz.prog nSWrite [.ptr q 0, .v (.int .i64 slot), .v (.int .i64 ver), .v (.string I)] H n (.v (.int .i64 p.1)) ⟨devN p.2 n i a b c H.l, H.x⟩ (n + 3) := by
  subst hp
  obtain ⟨hi, ha, hb', hc, ⟨p1, p2, p3, p4⟩, ⟨q1, q2, q3, q4⟩, n1, n2, n3, n4, n5, n6⟩ := h
  obtain ⟨k1, k2, k3, k4, k5, k6⟩ := hq
  have := lift (n := n) (okT.spec tSWrite (swriteW (x := H.x) (slot := slot) (ver := ver) (I := I) hb hr hP ht)) [(1, q), (2, i), (3, a), (4, b), (5, c)] rfl rfl rfl (by omega) rfl rfl
    ⟨sub_ro rfl k1 hg rfl, sub_wr rfl p1 q1 hi rfl, sub_wr rfl p2 q2 ha rfl, sub_wr rfl p3 q3 hb' rfl, sub_wr rfl p4 q4 hc rfl, trivial⟩
    (by simp [swH, devL, apartB, apart1, rn, lk, n1, n2, n3, n4, n5, n6, k3, k4, k5, k6, Ne.symm n1, Ne.symm n2, Ne.symm n3, Ne.symm n4, Ne.symm n5, Ne.symm n6, Ne.symm k3, Ne.symm k4, Ne.symm k5, Ne.symm k6]) (by simp [swH, devL, wrNZ, rn, lk]; omega) (by omega)
  exact this
end Sl
end
section
/- Slots: the document's Write. -/
set_option linter.unusedVariables false
set_option linter.unusedSimpArgs false
set_option maxRecDepth 100000
open Go.Proofs
namespace Sl
variable {H : Hp} {n : Nat} {x : Nat → Option SO} {d d' : Fd} {i a b c : Nat} {u1 u2 u3 : Bool}
end Sl
end
section
/- Slots: strings.Builder's WriteString; Read. -/
set_option linter.unusedVariables false
set_option linter.unusedSimpArgs false
set_option maxRecDepth 100000
open Go.Proofs
namespace Sl
variable {H : Hp} {n : Nat} {x : Nat → Option SO} {d d' : Fd} {i a b c : Nat} {u1 u2 u3 : Bool}
def secT (d : Fd) (k : Int) : ByteArray := tx (d.seen.getD k.toNat [])
def imgT (at_ : Int) (d : Fd) : Nat → ByteArray
  | 0 => ⟨#[]⟩
  | k + 1 => imgT at_ d k ++ secT d (at_ + 1 + k)
def imgOf (at_ : Int) (d : Fd) (z : Nat) : ByteArray := (imgT at_ d ((z + 63) / 64)).extract 0 z
def srV (img : Nat → ByteArray) (r : Nat) (hs : ByteArray) (v z v2 : Nat) : Nat × ByteArray × Int :=
  if v = 0 ∨ v ≠ v2 ∨ z = 0 ∨ 8192 < z ∨ r * 64 < z then (0, ⟨#[]⟩, 5) else if sha (bts (img z)) ≠ hs then (0, ⟨#[]⟩, 10) else (v, img z, 0)
def srT (bs r : Nat) (slot : Int) (d : Fd) : Nat × ByteArray × Int :=
  if slOK slot = false then (0, ⟨#[]⟩, 1) else if d.off then (0, ⟨#[]⟩, 7) else
    srV (imgOf (atV bs r slot) d) r ((secT d (atV bs r slot)).extract 5 37) (num ((secT d (atV bs r slot)).extract 0 1)) (num ((secT d (atV bs r slot)).extract 1 5)) (num ((secT d (atV bs r slot)).extract 37 38))
def rV (p : Nat × ByteArray × Int) : SV := .tup [.v (.int .i64 p.1), .v (.string p.2.1), .v (.int .i64 p.2.2)]
theorem rdS' {k : Int} {u1 u2 u3 u4 : Bool} (hi : H.get i = some ⟨u1, devB d a b c⟩) (ha : H.get a = some ⟨u2, secB d.seen⟩) (hb : H.get b = some ⟨u3, secB d.safe⟩) (hc : H.get c = some ⟨u4, .pl (prow d.pend)⟩) (ne : 0 < i ∧ 0 < a ∧ 0 < b ∧ 0 < c) (hd : d.ok) : SpecAt Tryz.prog nFRead [.ptr i 0, .v (.int .i64 k)] H n (rdV d k) H n := by
  obtain ⟨p1, p2, p3, p4⟩ := ne
  have := lift (n := n) (ok3.pure tFRead (wF14 (x := H.x) (k := k) hd)) [(1, i), (2, a), (3, b), (4, c)] rfl rfl rfl (by omega) rfl rfl
    ⟨sub_ro rfl p1 hi rfl, sub_ro rfl p2 ha rfl, sub_ro rfl p3 hb rfl, sub_ro rfl p4 hc rfl, trivial⟩ (by simp [apartB, apart1, rn, lk]) (by simp [wrNZ, rn, lk]; try omega) (by omega)
  have hv : ∀ π, (rdV d k).ren π = rdV d k := fun π => by unfold rdV; split <;> (try split) <;> rfl
  rw [hv] at this
  exact this
def srH (d : Fd) (bs r : Nat) (x : Nat → Option SO) : Hp := ⟨[(1, some ⟨false, slB 2 bs r⟩), (2, some ⟨false, devB d 3 4 5⟩), (3, some ⟨false, secB d.seen⟩), (4, some ⟨false, secB d.safe⟩), (5, some ⟨false, .pl (prow d.pend)⟩)], x⟩
theorem secT_size {k : Int} (hd : d.ok) (h0 : 0 ≤ k) (h1 : k < d.seen.length) : (secT d k).size = 64 := by
  unfold secT
  rw [tx_sz]
  exact getD_len hd.seen (by omega)
theorem rdV_at {k : Int} (ho : d.off = false) (h0 : 0 ≤ k) (h1 : k < d.seen.length) : rdV d k = .tup [.v (.string (secT d k)), .v (.int .i64 0)] := by
  unfold rdV; rw [ho, if_neg Bool.false_ne_true, if_neg (by omega)]; rfl
theorem num_lt' {t : ByteArray} (h : t.size ≤ 7) : num t < 72057594037927936 := by
  have := nvl_bound (l := nbs t) nbs_lt (j := (nbs t).length) (Nat.le_refl _)
  rw [List.take_length, nbs_len] at this
  refine Nat.lt_of_lt_of_le this (Nat.le_trans (Nat.pow_le_pow_right (by decide) h) (by decide))
theorem bts_app {a b : ByteArray} : bts (a ++ b) = bts a ++ bts b := by simp [bts]
theorem bts_bytes {a : ByteArray} : ∀ y ∈ bts a, 0 ≤ y ∧ y ≤ 255 := by
  intro y hy
  unfold bts at hy
  obtain ⟨b, _, rfl⟩ := List.mem_map.1 hy
  have := b.toNat_lt
  exact ⟨by omega, by omega⟩
theorem ba_nil {a : ByteArray} : (⟨#[]⟩ : ByteArray) ++ a = a := by apply ByteArray.ext; simp
theorem imgT_size {at_ : Int} (hd : d.ok) (h0 : 0 ≤ at_) : ∀ {j : Nat}, at_ + 1 + j ≤ d.seen.length → (imgT at_ d j).size = 64 * j
  | 0, _ => rfl
  | j + 1, h => by
    show (imgT at_ d j ++ secT d (at_ + 1 + j)).size = _
    rw [ByteArray.size_append, imgT_size hd h0 (by omega), secT_size hd (by omega) (by omega)]
    omega
theorem loopU_fam {C : Tab} {base : Nat} {α : Type} (p : α → Prop) (I : α → St) (μ : α → Nat) (a0 : α) {b : MC} {s : St} {K : Ex → St → Prop} (h0 : p a0) (hs : Sub base (I a0) s)
    (hr : ∀ a, p a → vc C base b (I a) (kLoop base p I μ a K)) : LoopU base (vc C base b) 0 s K := by
  refine ⟨{a // p a}, fun a => I a.1, fun a => μ a.1, ⟨⟨a0, h0⟩, hs⟩, fun a => ?_⟩
  have := hr a.1 a.2
  refine vc_mono (fun e s' h => ?_) this
  cases e with
  | normal =>
    obtain ⟨a', h1, h2, h3⟩ := h
    exact ⟨⟨a', h1⟩, h3, h2⟩
  | exit j => exact h
  | ret => exact h
theorem sreadW {bs r : Nat} {slot : Int} (hb : bs ≤ 4096) (hr : r ≤ 128) (hd : d.ok) (hl : bs + 2 * (1 + r) ≤ d.seen.length) :
    fnVC CT mSRead [.ptr 1 0, .v (.int .i64 slot)] (srH d bs r x) 6 fun v H' n' => Sub 6 ⟨[(0, rV (srT bs r slot d))], ⟨[], x⟩, 6⟩ ⟨[(0, v)], H', n'⟩ := by
  unfold mSRead srH devB slB
  simp -implicitDefEqProofs only [↓fnVC, initTm]
  simp -implicitDefEqProofs only [go_sem]
  refine at_call tSAt (satS (i := 1) (D := 2) (bs := bs) (r := r) (by rfl) hb hr) ?_
  unfold srT
  by_cases h0 : slOK slot = false
  · rw [if_pos h0]
    simp -implicitDefEqProofs only [go_sem, h0, List.isEmpty_cons, Bool.false_eq_true, if_false]
    refine sub_mk [] rfl rfl rfl ?_
    simp only [tmSub, hpSub, objSub, eqTm, eqHp, rn, lk, SV.ren, SV.renC, SV.renB, SV.renA, ren_ints, ren_strs, ren_pl, ren_svs, SV.v.injEq, Value.int.injEq, Body.ints.injEq, SV.ptr.injEq, SV.sl.injEq, Value.string.injEq, Value.bool.injEq, List.map_cons, List.map_nil, forall_const, Nat.reduceLT, Nat.lt_add_one, imp_self, true_and, and_true, and_self, ob_some, get_mk, lk_cons, ↓reduceIte, Nat.reduceEqDiff, ne_eq, not_true_eq_false, not_false_eq_true, Nat.one_ne_zero, Nat.zero_ne_one, Nat.succ_ne_self, Nat.reduceAdd, Bool.false_eq_true, false_implies, implies_true, reduceCtorEq, rV]
    rfl
  rw [if_neg h0]
  have b0 : slOK slot = true := by simpa using h0
  have hat : 0 ≤ atV bs r slot ∧ atV bs r slot + 1 + r ≤ d.seen.length := by
    unfold atV
    rcases of_decide_eq_true b0 with rfl | rfl
    · rw [if_neg (by decide), if_pos rfl]; omega
    · rw [if_pos rfl]; omega
  generalize atV bs r slot = at_ at hat ⊢
  simp -implicitDefEqProofs only [go_sem, b0, List.isEmpty_cons, Bool.false_eq_true, if_false]
  refine at_call tFRead (rdS' (i := 2) (a := 3) (b := 4) (c := 5) (d := d) (by rfl) (by rfl) (by rfl) (by rfl) (by decide) hd) ?_
  by_cases ho : d.off = true
  · have e1 : rdV d at_ = .tup [.v (.string ⟨#[]⟩), .v (.int .i64 7)] := if_pos ho
    rw [if_pos ho, e1]
    simp -implicitDefEqProofs only [go_sem, List.isEmpty_cons, Bool.false_eq_true, if_false]
    refine sub_mk [] rfl rfl rfl ?_
    simp only [tmSub, hpSub, objSub, eqTm, eqHp, rn, lk, SV.ren, SV.renC, SV.renB, SV.renA, ren_ints, ren_strs, ren_pl, ren_svs, SV.v.injEq, Value.int.injEq, Body.ints.injEq, SV.ptr.injEq, SV.sl.injEq, Value.string.injEq, Value.bool.injEq, List.map_cons, List.map_nil, forall_const, Nat.reduceLT, Nat.lt_add_one, imp_self, true_and, and_true, and_self, ob_some, get_mk, lk_cons, ↓reduceIte, Nat.reduceEqDiff, ne_eq, not_true_eq_false, not_false_eq_true, Nat.one_ne_zero, Nat.zero_ne_one, Nat.succ_ne_self, Nat.reduceAdd, Bool.false_eq_true, false_implies, implies_true, reduceCtorEq, rV]
    rfl
  rw [if_neg ho, rdV_at (by simpa using ho) hat.1 (by omega)]
  have hsz : (secT d at_).size = 64 := secT_size hd hat.1 (by omega)
  generalize hh : secT d at_ = h at hsz
  simp -implicitDefEqProofs only [go_sem, List.isEmpty_cons, Bool.false_eq_true, if_false]
  refine at_call tPRead (preadS (s := h) (by decide)) ?_
  simp -implicitDefEqProofs only [go_sem, List.isEmpty_cons, Bool.false_eq_true, if_false]
  have f1 := rd_at (s := h) (k := 0) (w := 1) (by omega)
  have f2 := rd_at (s := h) (k := 1) (w := 4) (by omega)
  have f3 := rd_at (s := h) (k := 5) (w := 32) (by omega)
  have f4 := rd_at (s := h) (k := 37) (w := 1) (by omega)
  rw [ext_all] at f1
  have ok : ∀ {s e k}, k ≤ 7 → numOK (rawT s e k) := fun hk => .inl (Nat.le_trans rawT_size hk)
  refine in_call mixT tRByte ?_
  unfold mRByte
  simp -implicitDefEqProofs only [↓fnVC, initTm]
  simp -implicitDefEqProofs only [go_sem]
  refine at_call tRNumber (numSp (i := 6) (s := h) (e := 0) (k := 1) (by rfl) (by decide) (by decide) (ok (by decide))) ?_
  rw [f1.1, f1.2.1, f1.2.2]
  simp -implicitDefEqProofs only [go_sem]
  refine in_call mixT tRFour ?_
  unfold mRFour
  simp -implicitDefEqProofs only [↓fnVC, initTm]
  simp -implicitDefEqProofs only [go_sem]
  refine at_call tRNumber (numSp (i := 6) (s := h.extract 1 h.size) (e := 0) (k := 4) (by rfl) (by decide) (by decide) (ok (by decide))) ?_
  rw [f2.1, f2.2.1, f2.2.2]
  simp -implicitDefEqProofs only [go_sem]
  refine at_call tRHash (hashSp (i := 6) (s := h.extract 5 h.size) (e := 0) (by rfl) (by decide)) ?_
  rw [f3.1, f3.2.1, f3.2.2]
  simp -implicitDefEqProofs only [go_sem]
  refine in_call mixT tRByte ?_
  unfold mRByte
  simp -implicitDefEqProofs only [↓fnVC, initTm]
  simp -implicitDefEqProofs only [go_sem]
  refine at_call tRNumber (numSp (i := 6) (s := h.extract 37 h.size) (e := 0) (k := 1) (by rfl) (by decide) (by decide) (ok (by decide))) ?_
  rw [f4.1, f4.2.1, f4.2.2]
  have k1 : num (h.extract 0 1) < 72057594037927936 := num_lt' (by rw [ByteArray.size_extract]; omega)
  have k2 : num (h.extract 1 5) < 72057594037927936 := num_lt' (by rw [ByteArray.size_extract]; omega)
  have k3 : num (h.extract 37 38) < 72057594037927936 := num_lt' (by rw [ByteArray.size_extract]; omega)
  generalize num (h.extract 0 1) = v1 at k1 ⊢
  generalize num (h.extract 1 (1 + 4)) = z at k2 ⊢
  generalize num (h.extract 37 (37 + 1)) = v2 at k3 ⊢
  have e3 : h.extract 5 (5 + 32) = h.extract 5 37 := rfl
  unfold srV
  rw [e3]
  by_cases c1 : v1 = 0
  · have a1 : decide ((v1 : Int) = 0) = true := decide_eq_true (by omega)
    rw [if_pos (.inl c1)]
    simp -implicitDefEqProofs only [go_sem, a1, List.isEmpty_cons, Bool.false_eq_true, if_false]
    refine sub_mk [] rfl rfl rfl ?_
    simp only [tmSub, hpSub, objSub, eqTm, eqHp, rn, lk, SV.ren, SV.renC, SV.renB, SV.renA, ren_ints, ren_strs, ren_pl, ren_svs, SV.v.injEq, Value.int.injEq, Body.ints.injEq, SV.ptr.injEq, SV.sl.injEq, Value.string.injEq, Value.bool.injEq, List.map_cons, List.map_nil, forall_const, Nat.reduceLT, Nat.lt_add_one, imp_self, true_and, and_true, and_self, ob_some, get_mk, lk_cons, ↓reduceIte, Nat.reduceEqDiff, ne_eq, not_true_eq_false, not_false_eq_true, Nat.one_ne_zero, Nat.zero_ne_one, Nat.succ_ne_self, Nat.reduceAdd, Bool.false_eq_true, false_implies, implies_true, reduceCtorEq, rV]
    rfl
  have a1 : decide ((v1 : Int) = 0) = false := decide_eq_false (by omega)
  by_cases c2 : v1 ≠ v2
  · have a2 : decide ((v1 : Int) = v2) = false := decide_eq_false (by omega)
    rw [if_pos (.inr (.inl c2))]
    simp -implicitDefEqProofs only [go_sem, a1, a2, List.isEmpty_cons, Bool.false_eq_true, if_false]
    refine sub_mk [] rfl rfl rfl ?_
    simp only [tmSub, hpSub, objSub, eqTm, eqHp, rn, lk, SV.ren, SV.renC, SV.renB, SV.renA, ren_ints, ren_strs, ren_pl, ren_svs, SV.v.injEq, Value.int.injEq, Body.ints.injEq, SV.ptr.injEq, SV.sl.injEq, Value.string.injEq, Value.bool.injEq, List.map_cons, List.map_nil, forall_const, Nat.reduceLT, Nat.lt_add_one, imp_self, true_and, and_true, and_self, ob_some, get_mk, lk_cons, ↓reduceIte, Nat.reduceEqDiff, ne_eq, not_true_eq_false, not_false_eq_true, Nat.one_ne_zero, Nat.zero_ne_one, Nat.succ_ne_self, Nat.reduceAdd, Bool.false_eq_true, false_implies, implies_true, reduceCtorEq, rV]
    rfl
  have a2 : decide ((v1 : Int) = v2) = true := decide_eq_true (by omega)
  by_cases c3 : z = 0
  · have a3 : decide ((z : Int) = 0) = true := decide_eq_true (by omega)
    rw [if_pos (.inr (.inr (.inl c3)))]
    simp -implicitDefEqProofs only [go_sem, a1, a2, a3, List.isEmpty_cons, Bool.false_eq_true, if_false]
    refine sub_mk [] rfl rfl rfl ?_
    simp only [tmSub, hpSub, objSub, eqTm, eqHp, rn, lk, SV.ren, SV.renC, SV.renB, SV.renA, ren_ints, ren_strs, ren_pl, ren_svs, SV.v.injEq, Value.int.injEq, Body.ints.injEq, SV.ptr.injEq, SV.sl.injEq, Value.string.injEq, Value.bool.injEq, List.map_cons, List.map_nil, forall_const, Nat.reduceLT, Nat.lt_add_one, imp_self, true_and, and_true, and_self, ob_some, get_mk, lk_cons, ↓reduceIte, Nat.reduceEqDiff, ne_eq, not_true_eq_false, not_false_eq_true, Nat.one_ne_zero, Nat.zero_ne_one, Nat.succ_ne_self, Nat.reduceAdd, Bool.false_eq_true, false_implies, implies_true, reduceCtorEq, rV]
    rfl
  have a3 : decide ((z : Int) = 0) = false := decide_eq_false (by omega)
  simp -implicitDefEqProofs only [go_sem, a1, a2, a3, List.isEmpty_cons, Bool.false_eq_true, if_false]
  refine at_call tSFits (fitsS (i := 1) (D := 2) (bs := bs) (r := r) (by rfl) hr) ?_
  by_cases c4 : 8192 < z ∨ r * 64 < z
  · have a4 : fitB r (z : Int) = false := decide_eq_false (by omega)
    rw [if_pos (.inr (.inr (.inr c4)))]
    simp -implicitDefEqProofs only [go_sem, a4, List.isEmpty_cons, Bool.false_eq_true, if_false]
    refine sub_mk [] rfl rfl rfl ?_
    simp only [tmSub, hpSub, objSub, eqTm, eqHp, rn, lk, SV.ren, SV.renC, SV.renB, SV.renA, ren_ints, ren_strs, ren_pl, ren_svs, SV.v.injEq, Value.int.injEq, Body.ints.injEq, SV.ptr.injEq, SV.sl.injEq, Value.string.injEq, Value.bool.injEq, List.map_cons, List.map_nil, forall_const, Nat.reduceLT, Nat.lt_add_one, imp_self, true_and, and_true, and_self, ob_some, get_mk, lk_cons, ↓reduceIte, Nat.reduceEqDiff, ne_eq, not_true_eq_false, not_false_eq_true, Nat.one_ne_zero, Nat.zero_ne_one, Nat.succ_ne_self, Nat.reduceAdd, Bool.false_eq_true, false_implies, implies_true, reduceCtorEq, rV]
    rfl
  have a4 : fitB r (z : Int) = true := decide_eq_true (by omega)
  rw [if_neg (by omega)]
  simp -implicitDefEqProofs only [go_sem, a4, List.isEmpty_cons, Bool.false_eq_true, if_false]
  have hmost := hd.most
  have w5 : IntKind.i64.wrap (at_ + 1) = at_ + 1 := wrap_i64 (by omega) (by omega)
  have w6 : IntKind.i64.wrap (at_ + 1 + 0) = at_ + 1 + (0 : Nat) := wrap_i64 (by omega) (by omega)
  have w7 : IntKind.i64.wrap (0 * 64) = 0 := rfl
  have a5 : decide (0 < (z : Int)) = true := decide_eq_true (by omega)
  refine loop_roll 1 ?_
  rw [LoopU_succ]
  simp -implicitDefEqProofs only [go_sem, w7, a5, w5, w6]
  refine at_call tFRead (rdS' (i := 2) (a := 3) (b := 4) (c := 5) (d := d) (by rfl) (by rfl) (by rfl) (by rfl) (by decide) hd) ?_
  rw [rdV_at (k := at_ + 1 + (0 : Nat)) (by simpa using ho) (by omega) (by omega)]
  have s0 : (secT d (at_ + 1 + (0 : Nat))).size = 64 := secT_size hd (by omega) (by omega)
  simp -implicitDefEqProofs only [go_sem, s0]
  refine in_call mixT tBWriteString ?_
  unfold mBWriteString
  simp -implicitDefEqProofs only [↓fnVC, initTm]
  simp -implicitDefEqProofs only [go_sem]
  refine at_ext (enters_mk Tryz.func111 rfl rfl) (ckF (i := 7) (j := 8) (by rfl) (by rfl) rfl) ?_
  simp -implicitDefEqProofs only [go_sem, s0]
  refine ⟨fun h => absurd rfl h, ?_⟩
  have hz : z ≤ 8192 := by omega
  have hR : (z + 63) / 64 ≤ r := by omega
  refine loopU_fam (fun (j : Nat) => 1 ≤ j ∧ j ≤ (z + 63) / 64)
    (fun j => ⟨[(0, .ptr 1 0), (7, .v (.int .i64 at_)), (11, .v (.int .i64 v1)), (12, .v (.int .i64 z)), (13, .v (.string (h.extract 5 37))), (15, .ptr 7 0), (16, .v (.int .i64 j))], ⟨[(1, some ⟨false, slB 2 bs r⟩), (2, some ⟨false, devB d 3 4 5⟩), (3, some ⟨false, secB d.seen⟩), (4, some ⟨false, secB d.safe⟩), (5, some ⟨false, .pl (prow d.pend)⟩), (7, some ⟨true, .sv [.ptr 7 0, .sl 9 0 (imgT at_ d j).size 1]⟩), (9, some ⟨true, .ints .u8 (bts (imgT at_ d j))⟩), (10, some ⟨false, .mp (.shp 9 5 none)⟩)], x⟩, 11⟩)
    (fun j => (z + 63) / 64 - j) 1 ⟨Nat.le_refl _, by omega⟩ ?_ ?_
  · refine sub_mk [] rfl rfl rfl ?_
    simp only [tmSub, hpSub, objSub, eqTm, eqHp, rn, lk, SV.ren, SV.renC, SV.renB, SV.renA, ren_ints, ren_strs, ren_pl, ren_svs, SV.v.injEq, Value.int.injEq, Body.ints.injEq, SV.ptr.injEq, SV.sl.injEq, Value.string.injEq, Value.bool.injEq, List.map_cons, List.map_nil, forall_const, Nat.reduceLT, Nat.lt_add_one, imp_self, true_and, and_true, and_self, ob_some, get_mk, lk_cons, ↓reduceIte, Nat.reduceEqDiff, ne_eq, not_true_eq_false, not_false_eq_true, Nat.one_ne_zero, Nat.zero_ne_one, Nat.succ_ne_self, Nat.reduceAdd, Bool.false_eq_true, false_implies, implies_true, reduceCtorEq, slB, devB]
    have g1 : imgT at_ d 1 = secT d (at_ + 1 + (0 : Nat)) := by show (⟨#[]⟩ : ByteArray) ++ _ = _; exact ba_nil
    rw [g1, s0]
    exact ⟨rfl, rfl, rfl, rfl, rfl, rfl⟩
  · intro j hj
    have w1 : IntKind.i64.wrap ((j : Int) * 64) = ((64 * j : Nat) : Int) := by rw [wrap_i64 (by omega) (by omega)]; omega
    unfold devB slB
    simp -implicitDefEqProofs only [go_sem, w1]
    refine condK_bb (fun c => ?_) (fun c => ?_)
    · have c1 : 64 * j < z := by have := of_decide_eq_true c; omega
      have w2 : IntKind.i64.wrap ((j : Int) + 1) = ((j + 1 : Nat) : Int) := by rw [wrap_i64 (by omega) (by omega)]; omega
      have w3 : IntKind.i64.wrap (at_ + 1 + (j : Int)) = at_ + 1 + j := wrap_i64 (by omega) (by omega)
      simp -implicitDefEqProofs only [go_sem, w1, w2, w3, w5, c]
      refine at_call tFRead (rdS' (i := 2) (a := 3) (b := 4) (c := 5) (d := d) (by rfl) (by rfl) (by rfl) (by rfl) (by decide) hd) ?_
      rw [rdV_at (k := at_ + 1 + (j : Nat)) (by simpa using ho) (by omega) (by omega)]
      have s0 : (secT d (at_ + 1 + (j : Nat))).size = 64 := secT_size hd (by omega) (by omega)
      simp -implicitDefEqProofs only [go_sem]
      refine in_call mixT tBWriteString ?_
      unfold mBWriteString
      simp -implicitDefEqProofs only [↓fnVC, initTm]
      simp -implicitDefEqProofs only [go_sem]
      refine at_ext (enters_mk Tryz.func111 rfl rfl) (ckU (i := 7) (by rfl) rfl) ?_
      simp -implicitDefEqProofs only [go_sem]
      have sj : (imgT at_ d j).size = 64 * j := imgT_size hd hat.1 (by omega)
      refine ⟨by omega, fun _ => ⟨rfl, 10, ⟨false, .mp (.shp 9 5 none)⟩, rfl, rfl⟩, by rw [bts_len]; exact Nat.le_refl _, ?_⟩
      refine kLoop_mk (j + 1) (by omega) (by omega) ?_
      refine sub_mk [(9, 11), (10, 12)] rfl rfl rfl ?_
      simp only [tmSub, hpSub, objSub, eqTm, eqHp, rn, lk, SV.ren, SV.renC, SV.renB, SV.renA, ren_ints, ren_strs, ren_pl, ren_svs, SV.v.injEq, Value.int.injEq, Body.ints.injEq, SV.ptr.injEq, SV.sl.injEq, Value.string.injEq, Value.bool.injEq, List.map_cons, List.map_nil, forall_const, Nat.reduceLT, Nat.lt_add_one, imp_self, true_and, and_true, and_self, ob_some, get_mk, lk_cons, ↓reduceIte, Nat.reduceEqDiff, ne_eq, not_true_eq_false, not_false_eq_true, Nat.one_ne_zero, Nat.zero_ne_one, Nat.succ_ne_self, Nat.reduceAdd, Bool.false_eq_true, false_implies, implies_true, reduceCtorEq, slB, devB]
      rw [show imgT at_ d (j + 1) = imgT at_ d j ++ secT d (at_ + 1 + j) from rfl, ByteArray.size_append, bts_app, List.take_of_length_le (by rw [bts_len]; exact Nat.le_refl _)]
      exact ⟨w2, rfl, rfl, rfl, rfl, rfl⟩
    · have c1 : j = (z + 63) / 64 := by have := of_decide_eq_false c; omega
      subst c1
      have sj : (imgT at_ d ((z + 63) / 64)).size = 64 * ((z + 63) / 64) := imgT_size hd hat.1 (by omega)
      simp -implicitDefEqProofs only [go_sem, c, w1]
      refine at_ext (enters_mk Tryz.func80 rfl rfl) (strS (i := 7) (r := 9) (q := 10) (k := (imgT at_ d ((z + 63) / 64)).size) (bs := bts (imgT at_ d ((z + 63) / 64))) (by rfl) rfl (by rfl) (by rw [bts_len]) (by omega) (by omega) (by rfl) rfl bts_bytes) ?_
      rw [tx_bts]
      simp -implicitDefEqProofs only [go_sem]
      refine ⟨⟨by omega, by omega⟩, ?_⟩
      have e9 : (imgT at_ d ((z + 63) / 64)).extract 0 z = imgOf at_ d z := rfl
      rw [e9]
      have e8 : (imgOf at_ d z).size ≤ 8192 := by unfold imgOf; rw [ByteArray.size_extract]; omega
      refine at_call t9 (sum1S (s := imgOf at_ d z) (by rfl) (by omega)) ?_
      by_cases c5 : sha (bts (imgOf at_ d z)) = h.extract 5 37
      · have a5 : seq (sha (bts (imgOf at_ d z))) (h.extract 5 37) = true := by rw [c5]; exact seq_self _
        rw [if_neg (fun h => h c5)]
        simp -implicitDefEqProofs only [go_sem, a5]
        refine sub_mk [] rfl rfl rfl ?_
        simp only [tmSub, hpSub, objSub, eqTm, eqHp, rn, lk, SV.ren, SV.renC, SV.renB, SV.renA, ren_ints, ren_strs, ren_pl, ren_svs, SV.v.injEq, Value.int.injEq, Body.ints.injEq, SV.ptr.injEq, SV.sl.injEq, Value.string.injEq, Value.bool.injEq, List.map_cons, List.map_nil, forall_const, Nat.reduceLT, Nat.lt_add_one, imp_self, true_and, and_true, and_self, ob_some, get_mk, lk_cons, ↓reduceIte, Nat.reduceEqDiff, ne_eq, not_true_eq_false, not_false_eq_true, Nat.one_ne_zero, Nat.zero_ne_one, Nat.succ_ne_self, Nat.reduceAdd, Bool.false_eq_true, false_implies, implies_true, reduceCtorEq, rV]
      · have a5 : seq (sha (bts (imgOf at_ d z))) (h.extract 5 37) = false := seq_ne c5
        rw [if_pos c5]
        simp -implicitDefEqProofs only [go_sem, a5]
        refine sub_mk [] rfl rfl rfl ?_
        simp only [tmSub, hpSub, objSub, eqTm, eqHp, rn, lk, SV.ren, SV.renC, SV.renB, SV.renA, ren_ints, ren_strs, ren_pl, ren_svs, SV.v.injEq, Value.int.injEq, Body.ints.injEq, SV.ptr.injEq, SV.sl.injEq, Value.string.injEq, Value.bool.injEq, List.map_cons, List.map_nil, forall_const, Nat.reduceLT, Nat.lt_add_one, imp_self, true_and, and_true, and_self, ob_some, get_mk, lk_cons, ↓reduceIte, Nat.reduceEqDiff, ne_eq, not_true_eq_false, not_false_eq_true, Nat.one_ne_zero, Nat.zero_ne_one, Nat.succ_ne_self, Nat.reduceAdd, Bool.false_eq_true, false_implies, implies_true, reduceCtorEq, rV]
        rfl
end Sl
end
section
/- Slots: Read at any heap; the document's Read. -/
set_option linter.unusedVariables false
set_option linter.unusedSimpArgs false
set_option maxHeartbeats 2000000
set_option maxRecDepth 100000
open Go.Proofs
namespace Sl
variable {H : Hp} {n : Nat} {x : Nat → Option SO} {d d' : Fd} {i a b c : Nat} {u1 u2 u3 : Bool}
theorem sreadS {bs r q : Nat} {slot : Int} {w : Bool} (hb : bs ≤ 4096) (hr : r ≤ 128) (hg : H.get q = some ⟨w, slB i bs r⟩) (h : DevAt H d i a b c) (hq : 0 < q) (hd : d.ok) (hl : bs + 2 * (1 + r) ≤ d.seen.length) {p : Nat × ByteArray × Int} (hp : srT bs r slot d = p) :
    SpecAt Tryz.prog nSRead [.ptr q 0, .v (.int .i64 slot)] H n (rV p) H n := by
  subst hp
  obtain ⟨hi, ha, hb', hc, ⟨p1, p2, p3, p4⟩, ⟨q1, q2, q3, q4⟩, n1, n2, n3, n4, n5, n6⟩ := h
  have := lift_ro (n := n) (okT.spec tSRead (sreadW (x := H.x) (slot := slot) hb hr hd hl)) [(1, q), (2, i), (3, a), (4, b), (5, c)] rfl rfl rfl (by omega) rfl rfl
    ⟨sub_ro rfl hq hg rfl, sub_ro rfl p1 hi rfl, sub_ro rfl p2 ha rfl, sub_ro rfl p3 hb' rfl, sub_ro rfl p4 hc rfl, trivial⟩ (by simp [srH, apartB, apart1, rn, lk]) (by simp [srH, wrNZ, rn, lk]) rfl
  exact this
end Sl
end
section
/- Slots: what a write leaves, step by step; what is then read. -/
set_option linter.unusedVariables false
set_option linter.unusedSimpArgs false
set_option maxRecDepth 100000
open Go.Proofs
namespace Sl
variable {H : Hp} {n : Nat} {x : Nat → Option SO} {d d' : Fd} {i a b c : Nat} {u1 u2 u3 : Bool}
structure GoodP (f0 : Bool) (m : Nat) (st : Int) (X : List (List Int)) (Y : List (Nat × List Int)) (d : Fd) : Prop where
  off : d.off = false
  safe : d.safe = X
  pend : d.pend = Y
  sn : Sn d
  len : d.seen.length = m
  st : d.st = st
  fa : f0 = true → d.fa = 0
def InvP (f0 : Bool) (m : Nat) (P : List (List Int) → List (Nat × List Int) → Prop) (st : Int) (X : List (List Int)) (Y : List (Nat × List Int)) (p : Int × Fd) : Prop :=
  (p.1 = 0 ∧ GoodP f0 m st X Y p.2) ∨ (f0 = false ∧ p.1 = 7 ∧ P p.2.safe p.2.pend)
theorem inv_wr {f0 : Bool} {m : Nat} {P : List (List Int) → List (Nat × List Int) → Prop} {st : Int} {X : List (List Int)} {Y : List (Nat × List Int)} {p : Int × Fd} {k : Nat} {s : ByteArray}
    (h : InvP f0 m P st X Y p) (hP : P X Y) (hk : k < m) (hs : s.size ≤ 64) : InvP f0 m P (st + 1) X (Y ++ [(k, pad64 (bts s))]) (thn p fun d => wrT d k s) := by
  rcases h with ⟨h0, g⟩ | ⟨hf, h7, hp⟩
  · rw [thn_ok h0]
    obtain ⟨e, d⟩ := p
    obtain ⟨g1, g2, g3, g4, g5, g6, g7⟩ := g
    simp only at g1 g2 g3 g4 g5 g6 g7
    unfold wrT
    have hN : wrNo d k s = if d.fa = 1 then some (7, stepD d) else none := by
      unfold wrNo; rw [g1, if_neg Bool.false_ne_true, if_neg (by omega), if_neg (by omega)]
    rw [hN]
    by_cases hfa : d.fa = 1
    · rw [if_pos hfa]
      refine .inr ⟨?_, rfl, ?_⟩
      · cases f0
        · rfl
        · have := g7 rfl; omega
      · show P (stepD d).safe (stepD d).pend
        rw [stepD_safe.1, stepD_safe.2.1, g2, g3]; exact hP
    · rw [if_neg hfa]
      refine .inl ⟨rfl, ⟨?_, ?_, ?_, ?_, ?_, ?_, ?_⟩⟩
      · show (wrD d _ s).off = false
        rw [wrD_off hfa, g1]
      · show (wrD d _ s).safe = X
        rw [wrD_safe, g2]
      · show (wrD d _ s).pend = _
        rw [wrD_pend, g3, Int.toNat_natCast]
      · exact g4.wr
      · show (wrD d _ s).seen.length = _
        rw [wrD_len, g5]
      · show (wrD d _ s).st = _
        rw [wrD_st hfa, g6]
      · intro hf; show (wrD d _ s).fa = _
        exact wrD_fa (g7 hf)
  · have hp1 : p.1 ≠ 0 := by rw [h7]; decide
    rw [thn_no hp1]
    exact .inr ⟨hf, h7, hp⟩
theorem inv_ba {f0 : Bool} {m : Nat} {P : List (List Int) → List (Nat × List Int) → Prop} {st : Int} {X : List (List Int)} {Y : List (Nat × List Int)} {p : Int × Fd}
    (h : InvP f0 m P st X Y p) (hP : P X Y) : InvP f0 m P (st + 1) (setl X Y) [] (thn p baT) := by
  rcases h with ⟨h0, g⟩ | ⟨hf, h7, hp⟩
  · rw [thn_ok h0]
    obtain ⟨e, d⟩ := p
    obtain ⟨g1, g2, g3, g4, g5, g6, g7⟩ := g
    simp only at g1 g2 g3 g4 g5 g6 g7
    unfold baT
    have hN : baNo d = if d.fa = 1 then some (7, stepD d) else none := by
      unfold baNo; rw [g1, if_neg Bool.false_ne_true]
    rw [hN]
    by_cases hfa : d.fa = 1
    · rw [if_pos hfa]
      refine .inr ⟨?_, rfl, ?_⟩
      · cases f0
        · rfl
        · have := g7 rfl; omega
      · show P (stepD d).safe (stepD d).pend
        rw [stepD_safe.1, stepD_safe.2.1, g2, g3]; exact hP
    · rw [if_neg hfa]
      refine .inl ⟨rfl, ⟨?_, ?_, rfl, ?_, ?_, ?_, ?_⟩⟩
      · show (baD d).off = false
        rw [baD_off hfa, g1]
      · show setl d.safe d.pend = _
        rw [g2, g3]
      · show (baD d).seen = setl (baD d).safe (baD d).pend
        rw [g4.ba]; rfl
      · show (baD d).seen.length = _
        rw [baD_seen, g5]
      · show (baD d).st = _
        rw [baD_st hfa, g6]
      · intro hf; exact baD_fa (g7 hf)
  · have hp1 : p.1 ≠ 0 := by rw [h7]; decide
    rw [thn_no hp1]
    exact .inr ⟨hf, h7, hp⟩
def pch (a0 : Nat) (I : ByteArray) (j : Nat) : List (Nat × List Int) := (List.range j).map fun k => (a0 + 1 + k, pad64 (bts (chk I k)))
def z64 : List Int := pad64 (bts ⟨#[]⟩)
def hd64 (v : Nat) (I : ByteArray) : List Int := pad64 (bts (hdrT v I))
theorem pch_succ {a0 : Nat} {I : ByteArray} {j : Nat} : pch a0 I (j + 1) = pch a0 I j ++ [(a0 + 1 + j, pad64 (bts (chk I j)))] := by
  unfold pch; rw [List.range_succ, List.map_append]; rfl
theorem chk_size {I : ByteArray} {j : Nat} : (chk I j).size ≤ 64 := by
  unfold chk; rw [ByteArray.size_extract]; omega
inductive PhA (S : List (List Int)) (a0 v : Nat) (I : ByteArray) : List (List Int) → List (Nat × List Int) → Prop
  | p0 : PhA S a0 v I S []
  | p1 : PhA S a0 v I S [(a0, z64)]
  | p2 (j : Nat) (h : j ≤ nCh I) : PhA S a0 v I (S.set a0 z64) (pch a0 I j)
  | p4 : PhA S a0 v I (setl (S.set a0 z64) (pch a0 I (nCh I))) []
  | p5 : PhA S a0 v I (setl (S.set a0 z64) (pch a0 I (nCh I))) [(a0, hd64 v I)]
def doneS (S : List (List Int)) (a0 v : Nat) (I : ByteArray) : List (List Int) := (setl (S.set a0 z64) (pch a0 I (nCh I))).set a0 (hd64 v I)
theorem slW_inv {f0 : Bool} {m a0 v r : Nat} {st : Int} {S : List (List Int)} {I : ByteArray} (g : GoodP f0 m st S [] d) (hm : a0 + 1 + r ≤ m) (hI : nCh I ≤ r) :
    InvP f0 m (PhA S a0 v I) (st + 5 + nCh I) (doneS S a0 v I) [] (slW a0 v I d) := by
  have hh : (hdrT v I).size ≤ 64 := by rw [hdr_size]; decide
  have h0 : InvP f0 m (PhA S a0 v I) st S [] (0, d) := .inl ⟨rfl, g⟩
  have h1 := inv_wr (k := a0) (s := ⟨#[]⟩) h0 .p0 (by omega) (by decide)
  rw [thn_ok rfl] at h1
  have h2 : InvP f0 m (PhA S a0 v I) (st + 1 + 1) (S.set a0 z64) [] (p1 a0 d) := inv_ba h1 .p1
  have h3 : ∀ j, j ≤ nCh I → InvP f0 m (PhA S a0 v I) (st + 2 + j) (S.set a0 z64) (pch a0 I j) (pC a0 I d j) := by
    intro j
    induction j with
    | zero => intro _; have e : st + 1 + 1 = st + 2 + (0 : Nat) := by omega
              rw [e] at h2; exact h2
    | succ j ih =>
      intro hj
      have := inv_wr (k := a0 + 1 + j) (s := chk I j) (ih (by omega)) (.p2 j (by omega)) (by omega) chk_size
      rw [← pch_succ, show st + 2 + (j : Int) + 1 = st + 2 + ((j + 1 : Nat) : Int) by omega] at this
      exact this
  have h4 : InvP f0 m (PhA S a0 v I) (st + 2 + nCh I + 1) (setl (S.set a0 z64) (pch a0 I (nCh I))) [] (p2 a0 I d) := inv_ba (h3 _ (Nat.le_refl _)) (.p2 _ (Nat.le_refl _))
  have h5 : InvP f0 m (PhA S a0 v I) (st + 2 + nCh I + 1 + 1) (setl (S.set a0 z64) (pch a0 I (nCh I))) [(a0, hd64 v I)] (p3 a0 v I d) := inv_wr h4 .p4 (by omega) hh
  have h6 : InvP f0 m (PhA S a0 v I) (st + 2 + nCh I + 1 + 1 + 1) (doneS S a0 v I) [] (slW a0 v I d) := inv_ba h5 .p5
  rw [show st + 2 + (nCh I : Int) + 1 + 1 + 1 = st + 5 + nCh I by omega] at h6
  exact h6
end Sl
end
section
/- Slots: what is then read. -/
set_option linter.unusedVariables false
set_option linter.unusedSimpArgs false
set_option maxRecDepth 100000
open Go.Proofs
namespace Sl
variable {H : Hp} {n : Nat} {x : Nat → Option SO} {d d' : Fd} {i a b c : Nat} {u1 u2 u3 : Bool}
theorem getD_set_ne {α : Type} {l : List α} {i j : Nat} {v z : α} (h : i ≠ j) : (l.set i v).getD j z = l.getD j z := by
  rw [List.getD_eq_getElem?_getD, List.getElem?_set_ne h, ← List.getD_eq_getElem?_getD]
theorem getD_set_eq {α : Type} {l : List α} {i : Nat} {v z : α} (h : i < l.length) : (l.set i v).getD i z = v := by
  rw [List.getD_eq_getElem?_getD, List.getElem?_set_self h]; rfl
theorem pch_len {a0 j : Nat} {I : ByteArray} : (pch a0 I j).length = j := by simp [pch]
theorem pch_mem {a0 j : Nat} {I : ByteArray} : ∀ w ∈ pch a0 I j, a0 < w.1 ∧ w.1 ≤ a0 + j ∧ w.2.length = 64 := by
  intro w hw
  unfold pch at hw
  obtain ⟨k, hk, rfl⟩ := List.mem_map.1 hw
  have := List.mem_range.1 hk
  exact ⟨by show a0 < a0 + 1 + k; omega, by show a0 + 1 + k ≤ a0 + j; omega, pad64_len (by rw [bts_len]; exact chk_size)⟩
theorem pch_get {a0 j k : Nat} {I : ByteArray} (h : k < j) : (pch a0 I j).getD k (0, []) = (a0 + 1 + k, pad64 (bts (chk I k))) := by
  unfold pch
  rw [List.getD_eq_getElem?_getD, List.getElem?_map, List.getElem?_range h]; rfl
theorem setl_pch {S : List (List Int)} {a0 j k : Nat} {I : ByteArray} (h : k < j) (hl : a0 + 1 + k < S.length) : (setl S (pch a0 I j)).getD (a0 + 1 + k) [] = pad64 (bts (chk I k)) := by
  have := setl_hit (S := S) (ws := pch a0 I j) (t := k) (j := a0 + 1 + k) (by rw [pch_len]; exact h) hl (by rw [pch_get h]) (by
    intro w hw
    unfold pch at hw
    rw [← List.map_drop] at hw
    obtain ⟨q, hq, rfl⟩ := List.mem_map.1 hw
    have : k + 1 ≤ q := by
      rw [List.range_eq_range', List.drop_range'] at hq
      have := List.mem_range'.1 hq
      omega
    show a0 + 1 + q ≠ a0 + 1 + k
    omega)
  rw [this, pch_get h]
theorem done_at {S : List (List Int)} {a0 v : Nat} {I : ByteArray} (h : a0 < S.length) : (doneS S a0 v I).getD a0 [] = hd64 v I := by
  unfold doneS; rw [getD_set_eq (by rw [setl_len, List.length_set]; exact h)]
theorem done_ch {S : List (List Int)} {a0 v k : Nat} {I : ByteArray} (hk : k < nCh I) (h : a0 + 1 + k < S.length) : (doneS S a0 v I).getD (a0 + 1 + k) [] = pad64 (bts (chk I k)) := by
  unfold doneS; rw [getD_set_ne (by omega), setl_pch hk (by rw [List.length_set]; exact h)]
theorem done_ne {S : List (List Int)} {a0 v k : Nat} {I : ByteArray} (hk : k < a0 ∨ a0 + nCh I < k) : (doneS S a0 v I).getD k [] = S.getD k [] := by
  unfold doneS
  rw [getD_set_ne (by omega), setl_none (fun w hw => by have := pch_mem w hw; omega), getD_set_ne (by omega)]
theorem pad_bytes {ys : List Int} (h : ∀ y ∈ ys, 0 ≤ y ∧ y ≤ 255) : ∀ y ∈ pad64 ys, 0 ≤ y ∧ y ≤ 255 := by
  intro y hy
  unfold pad64 at hy
  rcases List.mem_append.1 hy with hy | hy
  · exact h y hy
  · rw [List.eq_of_mem_replicate hy]; decide
theorem pad_split {B : List Int} {j : Nat} (h : 64 * j < B.length) : pad64 ((B.drop (64 * j)).take (min (64 * j + 64) B.length - 64 * j)) = ((B ++ List.replicate 64 0).drop (64 * j)).take 64 := by
  unfold pad64
  rw [List.drop_append_of_le_length (by omega), List.take_append]
  simp only [List.length_take, List.length_drop]
  have e1 : min (64 * j + 64) B.length - 64 * j = min 64 (B.length - 64 * j) := by omega
  rw [e1, List.take_replicate]
  congr 1
  · rw [show min 64 (B.length - 64 * j) = min 64 (B.drop (64 * j)).length by rw [List.length_drop], ← List.take_eq_take_min]
  · congr 1; omega
theorem bts_chk {I : ByteArray} {j : Nat} : bts (chk I j) = ((bts I).drop (64 * j)).take (min (64 * j + 64) (bts I).length - 64 * j) := by
  unfold chk; rw [bts_ext, bts_len]
theorem imgT_done {a0 : Nat} {I : ByteArray} (hc : ∀ k, k < nCh I → d.seen.getD (a0 + 1 + k) [] = pad64 (bts (chk I k))) : ∀ j, j ≤ nCh I → bts (imgT a0 d j) = (bts I ++ List.replicate 64 0).take (64 * j)
  | 0, _ => rfl
  | j + 1, h => by
    have hj : 64 * j < I.size := nCh_lt.1 (by omega)
    show bts (imgT a0 d j ++ secT d ((a0 : Int) + 1 + j)) = _
    rw [bts_app, imgT_done hc j (by omega)]
    have e : secT d ((a0 : Int) + 1 + j) = tx (pad64 (bts (chk I j))) := by
      unfold secT
      rw [show ((a0 : Int) + 1 + j).toNat = a0 + 1 + j by omega, hc j (by omega)]
    rw [e, btx (pad_bytes bts_bytes), bts_chk, pad_split (by rw [bts_len]; exact hj), show 64 * (j + 1) = 64 * j + 64 by omega, List.take_add]
theorem imgOf_done {a0 : Nat} {I : ByteArray} (hc : ∀ k, k < nCh I → d.seen.getD (a0 + 1 + k) [] = pad64 (bts (chk I k))) : imgOf a0 d I.size = I := by
  apply bts_inj
  unfold imgOf
  rw [bts_ext, show (I.size + 63) / 64 = nCh I from rfl, imgT_done hc _ (Nat.le_refl _)]
  have h1 : I.size ≤ 64 * nCh I := by unfold nCh; omega
  have h2 : (bts I).length = I.size := bts_len I
  rw [List.drop_zero, Nat.sub_zero, List.take_take, Nat.min_eq_left h1, List.take_append_of_le_length (by omega), List.take_of_length_le (by omega)]
theorem hdr_bytes {v : Nat} {I : ByteArray} : ∀ y ∈ hdrL v I, 0 ≤ y ∧ y ≤ 255 := by
  intro y hy
  unfold hdrL at hy
  simp only [List.mem_append] at hy
  rcases hy with ((hy | hy) | hy) | hy
  · exact be_bytes y hy
  · exact be_bytes y hy
  · exact bts_bytes y hy
  · exact be_bytes y hy
theorem hd64_eq {v : Nat} {I : ByteArray} : hd64 v I = hdrL v I ++ List.replicate 26 0 := by
  unfold hd64 pad64 hdrT
  rw [btx hdr_bytes]
  have : (hdrL v I).length = 38 := by rw [← tx_sz]; exact hdr_size
  rw [this]
theorem hd64_bytes {v : Nat} {I : ByteArray} : ∀ y ∈ hd64 v I, 0 ≤ y ∧ y ≤ 255 := pad_bytes bts_bytes
theorem hd_f1 {v : Nat} {I : ByteArray} : ((hd64 v I).drop 0).take 1 = be v 1 := by
  rw [hd64_eq]; unfold hdrL
  rw [List.drop_zero, List.append_assoc, List.append_assoc, List.append_assoc, List.take_append_of_le_length (by rw [be_len]; decide), List.take_of_length_le (by rw [be_len]; decide)]
theorem hd_f2 {v : Nat} {I : ByteArray} : ((hd64 v I).drop 1).take 4 = be I.size 4 := by
  rw [hd64_eq]; unfold hdrL
  rw [List.append_assoc, List.append_assoc, List.append_assoc, List.drop_append, be_len, List.drop_of_length_le (by rw [be_len]; decide)]
  rw [List.nil_append, Nat.sub_self, List.drop_zero, List.take_append_of_le_length (by rw [be_len]; decide), List.take_of_length_le (by rw [be_len]; decide)]
theorem hd_f3 {v : Nat} {I : ByteArray} : ((hd64 v I).drop 5).take 32 = bts (sha (bts I)) := by
  have h32 : (bts (sha (bts I))).length = 32 := by rw [bts_len, sha_size]
  rw [hd64_eq]; unfold hdrL
  rw [List.append_assoc, List.append_assoc, List.drop_append, List.drop_of_length_le (by simp only [List.length_append, be_len]; decide)]
  simp only [List.length_append, be_len]
  rw [List.nil_append, Nat.sub_self, List.drop_zero, List.take_append_of_le_length (by omega), List.take_of_length_le (by omega)]
theorem hd_f4 {v : Nat} {I : ByteArray} : ((hd64 v I).drop 37).take 1 = be v 1 := by
  have h32 : (bts (sha (bts I))).length = 32 := by rw [bts_len, sha_size]
  rw [hd64_eq]; unfold hdrL
  rw [List.append_assoc, List.drop_append, List.drop_of_length_le (by simp only [List.length_append, be_len, h32]; decide)]
  simp only [List.length_append, be_len, h32]
  rw [List.nil_append, Nat.sub_self, List.drop_zero, List.take_append_of_le_length (by rw [be_len]; decide), List.take_of_length_le (by rw [be_len]; decide)]
theorem sec_ext {k a b : Nat} {T : List Int} (h : d.seen.getD k [] = T) (hT : ∀ y ∈ T, 0 ≤ y ∧ y ≤ 255) : bts ((secT d k).extract a b) = (T.drop a).take (b - a) := by
  unfold secT
  rw [Int.toNat_natCast, h, bts_ext, btx hT]
theorem srT_done {bs r a0 v : Nat} {slot : Int} {I : ByteArray} (hs : slOK slot = true) (ho : d.off = false) (hat : atV bs r slot = a0) (hh : d.seen.getD a0 [] = hd64 v I) (hc : ∀ k, k < nCh I → d.seen.getD (a0 + 1 + k) [] = pad64 (bts (chk I k)))
    (hv : 1 ≤ v ∧ v < 256) (hI : 1 ≤ I.size ∧ I.size ≤ 8192 ∧ I.size ≤ r * 64) : srT bs r slot d = (v, I, 0) := by
  unfold srT
  rw [if_neg (by rw [hs]; decide), if_neg (by rw [ho]; decide), hat]
  rw [num_be (t := (secT d a0).extract 0 1) (y := v) (k := 1) (by rw [sec_ext hh hd64_bytes]; exact hd_f1) (by omega),
    num_be (t := (secT d a0).extract 1 5) (y := I.size) (k := 4) (by rw [sec_ext hh hd64_bytes]; exact hd_f2) (by omega),
    num_be (t := (secT d a0).extract 37 38) (y := v) (k := 1) (by rw [sec_ext hh hd64_bytes]; exact hd_f4) (by omega)]
  have e : (secT d a0).extract 5 37 = sha (bts I) := bts_inj (by rw [sec_ext hh hd64_bytes]; exact hd_f3)
  rw [e]
  unfold srV
  rw [if_neg (by omega), imgOf_done hc, if_neg (fun h => h rfl)]
theorem imgT_congr {a0 : Nat} : ∀ {j : Nat}, (∀ k, k < j → d'.seen.getD (a0 + 1 + k) [] = d.seen.getD (a0 + 1 + k) []) → imgT a0 d' j = imgT a0 d j
  | 0, _ => rfl
  | j + 1, h => by
    show imgT a0 d' j ++ secT d' ((a0 : Int) + 1 + j) = imgT a0 d j ++ secT d ((a0 : Int) + 1 + j)
    rw [imgT_congr fun k hk => h k (by omega)]
    unfold secT
    rw [show ((a0 : Int) + 1 + j).toNat = a0 + 1 + j by omega, h j (by omega)]
theorem srT_congr {bs r a0 : Nat} {slot : Int} (hs : slOK slot = true) (ho : d.off = false) (ho' : d'.off = false) (hat : atV bs r slot = a0) (h : ∀ k, a0 ≤ k → k ≤ a0 + r → d'.seen.getD k [] = d.seen.getD k []) : srT bs r slot d' = srT bs r slot d := by
  unfold srT
  simp only [hs, ho, ho', hat, Bool.true_eq_false, if_false, Bool.false_eq_true]
  have e : secT d' a0 = secT d a0 := by unfold secT; rw [Int.toNat_natCast, h a0 (Nat.le_refl _) (by omega)]
  rw [e]
  unfold srV
  generalize num ((secT d a0).extract 1 5) = z
  split
  · rfl
  · have e2 : imgOf a0 d' z = imgOf a0 d z := by
      unfold imgOf
      rw [imgT_congr fun k hk => h _ (by omega) (by omega)]
    rw [e2]
end Sl
end
end Go.Sx