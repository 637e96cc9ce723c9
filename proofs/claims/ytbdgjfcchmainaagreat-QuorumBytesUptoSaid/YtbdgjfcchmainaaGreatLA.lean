/- Layer 1's functions, at this program. -/
import Derived.Test.YtbdgjfcchmainaaGreatSxC
import Derived.Test.YtbdgjfcchmainaaGreatMir07s

set_option linter.unusedVariables false
set_option linter.unusedSimpArgs false
set_option maxRecDepth 100000
namespace Go.Sx
attribute [local go_sem ↓] det_call bind_mk intsB_mk strsB_mk svB_mk fnVC ob_some vc_skip vc_exit vc_ret vc_seq vc_block kSeq_normal kSeq_exit kSeq_ret kBlock_normal kBlock_exit kBlock_ret vc_reg vc_regD vc_cond condK_true condK_false vc_loop kLoop_exit kLoop_ret kRoll_normal kRoll_exit kRoll_ret vcOps_nil vcOps_cons V_none V_some gd_bool gd_undef put_some put_none vcT_fin vcT_pure vcT_act vcT_acts vcT_stop stab_none stab_some stabM_nil stabM_cons stabO_ld stabO_ldn stabO_slP stabO_b2s fldOf_ai fldOf_agg fldOf_ait fldOf_aggt intsOf_nil intsOf_cons strsOf_nil strsOf_cons c_omap ob_if lk_nil lk_cons ev_t ev_k z_mov z_pick z_bin z_binA z_binB z_binP z_un z_r2s z_conv z_s2b z_b2s z_mkM z_luM z_upM z_lenM lenMk_mp lenMk_nil plsOf_v z_delM asM_so plV_v plV_agg mpOf_mp mpOf_nil mpUp_mp asM_mp luV_ok luV_v z_allocT aggOf_mk z_boxT z_alloc z_bld z_bldI z_rowI z_rowS z_ld z_ldn z_st z_stn asN_ptr asN_fn z_nilck z_fld z_fadr z_idxA z_idxP z_idxS z_idxV z_slS z_slL z_slP z_mk z_lenS z_lenL z_app appC_ints appC_pl appC_sv appC_strs isS_strs loose_ints loose_pl loose_sv z_slM z_callv callvK_fn callvK_f callvK_yl vc_rangeF rfEnd_eq rfGo_none rfGo_ret rfGo_exit yGo_mk yEnd_n yEnd_r yEnd_e yRdy_mk yMid_n putPs_nil putPs_cons leaf_v leaf_ptr leaf_sl leaf_yl leaf_mp z_appS z_appST z_appZ z_cpyS z_mkfn reps_int reps_str z_rowV z_slnil nilK_zero z_cpy z_call asT_tup z_extT z_box boxOf_ai boxOf_agg boxOf_int boxOf_str boxOf_bool boxOf_ptr boxOf_sl sbin_int sbin_str sbinA_mk ae_nil ae_int ae_str sbinB_mk sbinP_nn sbinP_pn sbinP_np i_add i_sub i_mul i_quo i_rem i_and i_or i_xor i_andNot i_shl i_shr i_eql i_neq i_lss i_leq i_gtr i_geq st_add st_eql st_neq st_lss st_leq st_gtr st_geq bo_eql bo_neq pt_eql pt_neq un_neg un_xor un_not asI_mk asB_mk asS_mk asP_mk asSl_mk asBy_mk fresh_eq bnd_none bnd_some get_mk hput_mk hdel_mk kill_eq wrOf_eq rowOf_eq rsvs_0 rsvs_1 rsvs_2 rsvs_3 rsv_t rsv_c1 rsv_cn nt_v nt_ptr nt_sl nt_agg nt_ai get_ints get_strs get_pl get_sv getN_ints getN_sv set_ints set_strs set_sv setN_ints setN_sv part_ints part_strs part_sv cat_ints cat_strs cat_sv over_ints over_strs over_sv ones_ints ones_strs evs_nil evs_cons condK_eqt condK_eqf
attribute [local go_sem] initTm ne_eq not_true_eq_false not_false_eq_true true_and and_true List.length_cons List.length_nil Int.toNat_natCast Nat.add_zero Nat.zero_add Nat.mul_one List.getElem?_cons_zero List.drop_zero List.take_length List.take_succ_cons List.take_zero List.take_nil List.drop_succ_cons Option.map_some Nat.le_refl implies_true List.getElem?_cons_succ decide_true decide_false Bool.not_true Bool.not_false beq_self_eq_true Nat.succ_ne_self Nat.one_ne_zero Nat.zero_ne_one
section
open Go.Proofs
variable {C : Tab} {H : Hp} {n : Nat}
def rr (x n : Int) : Int := ior .u32 (ishr .u32 x n) (ishl .u32 x (32 - n))
def c45 : Ctr := fun args H n => match args with
  | [.v (.int .u32 x), .v (.int .i64 k)] => some (.v (.int .u32 (ior .u32 (ishl .u32 x (iand .u64 (IntKind.u64.wrap k) 31)) (ishr .u32 x (IntKind.u64.wrap (32 - iand .u64 (IntKind.u64.wrap k) 31))))), H, n)
  | _ => none
theorem w45 (x k : Int) : fnVC C m45 [.v (.int .u32 x), .v (.int .i64 k)] H n fun v H' n' => v = .v (.int .u32 (ior .u32 (ishl .u32 x (iand .u64 (IntKind.u64.wrap k) 31)) (ishr .u32 x (IntKind.u64.wrap (32 - iand .u64 (IntKind.u64.wrap k) 31))))) ∧ H' = H ∧ n' = n := by
  unfold m45
  simp -implicitDefEqProofs only [go_sem, ↓reduceIte, Nat.reduceEqDiff, Nat.reduceAdd, Nat.reduceMul, Nat.reduceLT, Nat.reduceLeDiff, Nat.reduceSub, Int.reduceToNat, Int.reduceLE, Int.reduceLT, reduceCtorEq]
  exact ⟨iand_nn rfl _ _, wrap_nn rfl _⟩
def c36 : Ctr := fun args H n => match args with
  | [.v (.int .u32 x), .v (.int .i64 k)] => if 0 < k ∧ k < 32 then some (.v (.int .u32 (rr x k)), H, n) else none
  | _ => none
theorem rot_eq {x k : Int} (h : 0 < k ∧ k < 32) : ior .u32 (ishl .u32 x (iand .u64 (IntKind.u64.wrap (IntKind.i64.wrap (0 - k))) 31)) (ishr .u32 x (IntKind.u64.wrap (32 - iand .u64 (IntKind.u64.wrap (IntKind.i64.wrap (0 - k))) 31))) = rr x k := by
  have e1 : iand .u64 (IntKind.u64.wrap (IntKind.i64.wrap (0 - k))) 31 = 32 - k := by
    have : k = 1 ∨ k = 2 ∨ k = 3 ∨ k = 4 ∨ k = 5 ∨ k = 6 ∨ k = 7 ∨ k = 8 ∨ k = 9 ∨ k = 10 ∨ k = 11 ∨ k = 12 ∨ k = 13 ∨ k = 14 ∨ k = 15 ∨ k = 16 ∨ k = 17 ∨ k = 18 ∨ k = 19 ∨ k = 20 ∨ k = 21 ∨ k = 22 ∨ k = 23 ∨ k = 24 ∨ k = 25 ∨ k = 26 ∨ k = 27 ∨ k = 28 ∨ k = 29 ∨ k = 30 ∨ k = 31 := by omega
    rcases this with h | h | h | h | h | h | h | h | h | h | h | h | h | h | h | h | h | h | h | h | h | h | h | h | h | h | h | h | h | h | h <;> subst h <;> decide
  rw [e1, wrap_u64r (by omega) (by omega), ior_comm, show 32 - (32 - k) = k by omega]
  rfl
theorem w36 (h45 : C 115 = det c45) (x k : Int) (hk : 0 < k ∧ k < 32) : fnVC C m36 [.v (.int .u32 x), .v (.int .i64 k)] H n fun v H' n' => v = .v (.int .u32 (rr x k)) ∧ H' = H ∧ n' = n := by
  unfold m36
  simp -implicitDefEqProofs only [go_sem, ↓reduceIte, Nat.reduceEqDiff, Nat.reduceAdd, Nat.reduceMul, Nat.reduceLT, Nat.reduceLeDiff, Nat.reduceSub, Int.reduceToNat, Int.reduceLE, Int.reduceLT, reduceCtorEq, h45, c45]
  rw [rot_eq hk]
theorem w43 (x k : Int) (hk : 0 < k ∧ k < 32) : fnVC C m43 [.v (.int .u32 x), .v (.int .i64 k)] H n fun v H' n' => v = .v (.int .u32 (rr x k)) ∧ H' = H ∧ n' = n := by
  unfold m43
  simp -implicitDefEqProofs only [go_sem, ↓reduceIte, Nat.reduceEqDiff, Nat.reduceAdd, Nat.reduceMul, Nat.reduceLT, Nat.reduceLeDiff, Nat.reduceSub, Int.reduceToNat, Int.reduceLE, Int.reduceLT, reduceCtorEq]
  rw [wrap_i64 (by omega) (by omega)]
  exact ⟨by omega, by omega, rfl⟩
def iv : List Int := [1779033703, 3144134277, 1013904242, 2773480762, 1359893119, 2600822924, 528734635, 1541459225]
variable {x : Nat → Option SO}
theorem w28 : fnVC C m28 [] ⟨[], x⟩ 1 fun v H' n' => Sub 1 ⟨[(0, .ai .u32 iv)], ⟨[], x⟩, 1⟩ ⟨[(0, v)], H', n'⟩ := by
  unfold m28
  simp -implicitDefEqProofs only [go_sem, ↓reduceIte, Nat.reduceEqDiff, Nat.reduceAdd, Nat.reduceMul, Nat.reduceLT, Nat.reduceLeDiff, Nat.reduceSub, Int.reduceToNat, Int.reduceLE, Int.reduceLT, reduceCtorEq]
  refine ob_of rfl (ob_of rfl ?_)
  exact ⟨by decide, by decide, sub_val rfl (by decide) (by decide) rfl⟩
def kk : List Int := [1116352408, 1899447441, 3049323471, 3921009573, 961987163, 1508970993, 2453635748, 2870763221, 3624381080, 310598401, 607225278, 1426881987, 1925078388, 2162078206, 2614888103, 3248222580, 3835390401, 4022224774, 264347078, 604807628, 770255983, 1249150122, 1555081692, 1996064986, 2554220882, 2821834349, 2952996808, 3210313671, 3336571891, 3584528711, 113926993, 338241895, 666307205, 773529912, 1294757372, 1396182291, 1695183700, 1986661051, 2177026350, 2456956037, 2730485921, 2820302411, 3259730800, 3345764771, 3516065817, 3600352804, 4094571909, 275423344, 430227734, 506948616, 659060556, 883997877, 958139571, 1322822218, 1537002063, 1747873779, 1955562222, 2024104815, 2227730452, 2361852424, 2428436474, 2756734187, 3204031479, 3329325298]
theorem w33 : fnVC C m33 [] ⟨[], x⟩ 1 fun v H' n' => Sub 1 ⟨[(0, .ai .u32 kk)], ⟨[], x⟩, 1⟩ ⟨[(0, v)], H', n'⟩ := by
  unfold m33
  simp -implicitDefEqProofs only [go_sem, ↓reduceIte, Nat.reduceEqDiff, Nat.reduceAdd, Nat.reduceMul, Nat.reduceLT, Nat.reduceLeDiff, Nat.reduceSub, Int.reduceToNat, Int.reduceLE, Int.reduceLT, reduceCtorEq]
  refine ob_of rfl (ob_of rfl ?_)
  exact ⟨by decide, by decide, sub_val rfl (by decide) (by decide) rfl⟩
theorem w29 : fnVC C m29 [] ⟨[], x⟩ 1 fun v H' n' => Sub 1 ⟨[(0, .ptr 1 0)], ⟨[(1, some ⟨true, .ints .u32 kk⟩)], x⟩, 2⟩ ⟨[(0, v)], H', n'⟩ := by
  unfold m29
  simp -implicitDefEqProofs only [go_sem, ↓reduceIte, Nat.reduceEqDiff, Nat.reduceAdd, Nat.reduceMul, Nat.reduceLT, Nat.reduceLeDiff, Nat.reduceSub, Int.reduceToNat, Int.reduceLE, Int.reduceLT, reduceCtorEq]
  refine ob_of rfl (ob_of rfl ?_)
  exact sub_mk [] rfl rfl rfl (by simp only [tmSub, hpSub, objSub, eqTm, eqHp, rn, lk, SV.ren, SV.renC, SV.renB, SV.renA, ren_ints, ren_strs, ren_pl, ren_svs, SV.v.injEq, Value.int.injEq, Body.ints.injEq, SV.ptr.injEq, SV.sl.injEq, Value.string.injEq, Value.bool.injEq, List.map_cons, List.map_nil, forall_const, Nat.reduceLT, Nat.lt_add_one, imp_self, true_and, and_true, and_self, ob_some, get_mk, lk_cons, ↓reduceIte, Nat.reduceEqDiff, ne_eq, not_true_eq_false, not_false_eq_true, Nat.one_ne_zero, Nat.zero_ne_one, Nat.succ_ne_self, Nat.reduceAdd, Bool.false_eq_true, false_implies, implies_true, reduceCtorEq]; rfl)
variable {C : Tab} {H : Hp} {n : Nat} {x : Nat → Option SO}
def add32 (a b : Int) : Int := IntKind.u32.wrap (a + b)
def word (ys : List Int) (o : Nat) : Int := ior .u32 (ior .u32 (ior .u32 (ishl .u32 (IntKind.u32.wrap (ys.getD o 0)) 24) (ishl .u32 (IntKind.u32.wrap (ys.getD (o + 1) 0)) 16)) (ishl .u32 (IntKind.u32.wrap (ys.getD (o + 2) 0)) 8)) (IntKind.u32.wrap (ys.getD (o + 3) 0))
def sg0 (x : Int) : Int := ixor .u32 (ixor .u32 (rr x 7) (rr x 18)) (ishr .u32 x 3)
def sg1 (x : Int) : Int := ixor .u32 (ixor .u32 (rr x 17) (rr x 19)) (ishr .u32 x 10)
def nxt (w : List Int) (t : Nat) : Int := add32 (add32 (add32 (w.getD (t - 16) 0) (sg0 (w.getD (t - 15) 0))) (w.getD (t - 7) 0)) (sg1 (w.getD (t - 2) 0))
def Ws (ys : List Int) (o : Nat) : Nat → List Int
  | 0 => []
  | t + 1 => Ws ys o t ++ [if t < 16 then word ys (o + 4 * t) else nxt (Ws ys o t) t]
theorem Ws_len (ys : List Int) (o : Nat) : ∀ t, (Ws ys o t).length = t
  | 0 => rfl
  | t + 1 => by simp [Ws, Ws_len ys o t]
def Wa (ys : List Int) (o t : Nat) : List Int := Ws ys o t ++ List.replicate (64 - t) 0
theorem Wa_len (ys : List Int) (o : Nat) {t : Nat} (h : t ≤ 64) : (Wa ys o t).length = 64 := by simp [Wa, Ws_len]; omega
theorem Wa_get (ys : List Int) (o : Nat) {t i : Nat} (h : i < t) : (Wa ys o t).getD i 0 = (Ws ys o t).getD i 0 := by
  simp only [Wa, List.getD_eq_getElem?_getD]
  rw [List.getElem?_append_left (by rw [Ws_len]; exact h)]
theorem Wa_set (ys : List Int) (o : Nat) {t : Nat} (h : t < 64) : (Wa ys o t).set t (if t < 16 then word ys (o + 4 * t) else nxt (Ws ys o t) t) = Wa ys o (t + 1) := by
  have e : List.replicate (64 - t) (0 : Int) = 0 :: List.replicate (64 - (t + 1)) 0 := by
    rw [show 64 - t = (64 - (t + 1)) + 1 by omega, List.replicate_succ]
  have := set_mid (Ws ys o t) (List.replicate (64 - (t + 1)) 0) 0 (if t < 16 then word ys (o + 4 * t) else nxt (Ws ys o t) t)
  rw [Ws_len] at this
  unfold Wa
  rw [e, this]
  simp [Ws]
def sG1 (e : Int) : Int := ixor .u32 (ixor .u32 (rr e 6) (rr e 11)) (rr e 25)
def sG0 (a : Int) : Int := ixor .u32 (ixor .u32 (rr a 2) (rr a 13)) (rr a 22)
def not32 (e : Int) : Int := ixor .u32 (if IntKind.u32.signed = true then -1 else IntKind.u32.max) e
def chf (e f g : Int) : Int := ixor .u32 (iand .u32 e f) (iand .u32 (not32 e) g)
def mjf (a b c : Int) : Int := ixor .u32 (ixor .u32 (iand .u32 a b) (iand .u32 a c)) (iand .u32 b c)
def pf (u : List Int) (k w : Int) : Int := add32 (add32 (add32 (add32 (u.getD 7 0) (sG1 (u.getD 4 0))) (chf (u.getD 4 0) (u.getD 5 0) (u.getD 6 0))) k) w
def qf (u : List Int) : Int := add32 (sG0 (u.getD 0 0)) (mjf (u.getD 0 0) (u.getD 1 0) (u.getD 2 0))
def stp (u : List Int) (k w : Int) : List Int := [add32 (pf u k w) (qf u), u.getD 0 0, u.getD 1 0, u.getD 2 0, add32 (u.getD 3 0) (pf u k w), u.getD 4 0, u.getD 5 0, u.getD 6 0]
def Rd (vs ks W : List Int) : Nat → List Int
  | 0 => vs
  | t + 1 => stp (Rd vs ks W t) (ks.getD t 0) (W.getD t 0)
def Va (vs u : List Int) (i : Nat) : List Int := (List.range 8).map fun j => if j < i then add32 (vs.getD j 0) (u.getD j 0) else vs.getD j 0
theorem Va_len (vs u : List Int) (i : Nat) : (Va vs u i).length = 8 := by simp [Va]
theorem Va_0 (vs u : List Int) (h : vs.length = 8) : Va vs u 0 = vs := by
  refine List.ext_getElem (by simp [Va, h]) fun j h1 h2 => ?_
  simp [Va, List.getD_eq_getElem?_getD, h2]
theorem Va_get (vs u : List Int) {i : Nat} (h : i < 8) : (Va vs u i).getD i 0 = vs.getD i 0 := by
  simp [Va, List.getD_eq_getElem?_getD, h]
theorem Va_set (vs u : List Int) {i : Nat} (h : i < 8) : (Va vs u i).set i (add32 (vs.getD i 0) (u.getD i 0)) = Va vs u (i + 1) := by
  refine List.ext_getElem (by simp [Va]) fun j h1 h2 => ?_
  simp only [Va, List.getElem_set, List.getElem_map, List.getElem_range]
  by_cases e : i = j
  · subst e; simp
  · simp only [e, if_false]
    by_cases e2 : j < i
    · rw [if_pos e2, if_pos (by omega)]
    · rw [if_neg e2, if_neg (by omega)]
def U8 (u : List Int) : List Int := [u.getD 0 0, u.getD 1 0, u.getD 2 0, u.getD 3 0, u.getD 4 0, u.getD 5 0, u.getD 6 0, u.getD 7 0]
theorem U8_get (u : List Int) {i : Nat} (h : i < 8) : (U8 u).getD i 0 = u.getD i 0 := by
  have : i = 0 ∨ i = 1 ∨ i = 2 ∨ i = 3 ∨ i = 4 ∨ i = 5 ∨ i = 6 ∨ i = 7 := by omega
  rcases this with h | h | h | h | h | h | h | h <;> subst h <;> rfl
def blk (vs ks ys : List Int) (o : Nat) : List Int := Va vs (Rd vs ks (Wa ys o 64) 64) 8
theorem w30 {mk : List Int → Body} {vs ks ys : List Int} {o : Nat} (hC : C 112 = det c36)
    (hg : ∀ vs i K, vs.length = 8 → i < 8 → K (.v (.int .u32 (vs.getD i 0))) → (mk vs).get i K)
    (hs : ∀ vs i y K, vs.length = 8 → i < 8 → K (mk (vs.set i y)) → (mk vs).set i (.v (.int .u32 y)) K)
    (hlt : ∀ vs n, (mk vs).lt (n + 1) = true) (hren : ∀ vs, (mk vs).ren [] = mk vs) (hv : vs.length = 8) (hk : ks.length = 64) (ho : o + 64 ≤ ys.length) :
    fnVC C m30 [.ptr 1 0, .ptr 2 0, .sl 3 o 64 1] ⟨[(1, some ⟨true, mk vs⟩), (2, some ⟨false, .ints .u32 ks⟩), (3, some ⟨false, .ints .u8 ys⟩)], x⟩ 4 fun v H' n' => Sub 4 ⟨[(0, .tup [])], ⟨[(1, some ⟨true, mk (blk vs ks ys o)⟩)], x⟩, 4⟩ ⟨[(0, v)], H', n'⟩ := by
  have hlt1 : ∀ n, (mk vs).lt (n + 1) = true := hlt vs
  unfold m30
  simp -implicitDefEqProofs only [go_sem, ↓reduceIte, Nat.reduceEqDiff, Nat.reduceAdd, Nat.reduceMul, Nat.reduceLT, Nat.reduceLeDiff, Nat.reduceSub, Int.reduceToNat, Int.reduceLE, Int.reduceLT, reduceCtorEq]
  refine loop_fam (fun t : Nat => t ≤ 16) (fun t => ⟨[(0, .ptr 1 0), (1, .ptr 2 0), (2, .sl 3 o 64 1), (6, .ptr 4 0), (24, .v (.int .i64 t))], ⟨[(1, some ⟨true, mk vs⟩), (2, some ⟨false, .ints .u32 ks⟩), (3, some ⟨false, .ints .u8 ys⟩), (4, some ⟨true, .ints .u32 (Wa ys o t)⟩)], x⟩, 5⟩) (fun t => 16 - t) 0 (by omega) ?_ ?_
  · exact sub0 rfl (by simp only [wfHp, hlt]; rfl) (by simp only [tmSub, hpSub, objSub, eqTm, eqHp, rn, lk, SV.ren, SV.renC, SV.renB, SV.renA, ren_ints, ren_strs, ren_pl, ren_svs, SV.v.injEq, Value.int.injEq, Body.ints.injEq, SV.ptr.injEq, SV.sl.injEq, Value.string.injEq, Value.bool.injEq, List.map_cons, List.map_nil, forall_const, Nat.reduceLT, Nat.lt_add_one, imp_self, true_and, and_true, and_self, ob_some, get_mk, lk_cons, ↓reduceIte, Nat.reduceEqDiff, ne_eq, not_true_eq_false, not_false_eq_true, Nat.one_ne_zero, Nat.zero_ne_one, Nat.succ_ne_self, Nat.reduceAdd, Bool.false_eq_true, false_implies, implies_true, reduceCtorEq]; exact ⟨rfl, rfl⟩)
  · intro t ht
    simp -implicitDefEqProofs only [go_sem, ↓reduceIte, Nat.reduceEqDiff, Nat.reduceAdd, Nat.reduceMul, Nat.reduceLT, Nat.reduceLeDiff, Nat.reduceSub, Int.reduceToNat, Int.reduceLE, Int.reduceLT, reduceCtorEq]
    refine condK_of (fun h => ?_) (fun h => ?_)
    · simp (disch := omega) only [wrap_i64]
      and_intros
      all_goals try omega
      · simp only [Wa_len _ _ (show t ≤ 64 by omega)]; omega
      · refine kLoop_mk (t + 1) (by omega) (by omega) (sub0 rfl (by simp only [wfHp, hlt]; rfl) ?_)
        simp only [tmSub, hpSub, objSub, eqTm, eqHp, rn, lk, SV.ren, SV.renC, SV.renB, SV.renA, ren_ints, ren_strs, ren_pl, ren_svs, SV.v.injEq, Value.int.injEq, Body.ints.injEq, SV.ptr.injEq, SV.sl.injEq, Value.string.injEq, Value.bool.injEq, List.map_cons, List.map_nil, forall_const, Nat.reduceLT, Nat.lt_add_one, imp_self, true_and, and_true, and_self, ob_some, get_mk, lk_cons, ↓reduceIte, Nat.reduceEqDiff, ne_eq, not_true_eq_false, not_false_eq_true, Nat.one_ne_zero, Nat.zero_ne_one, Nat.succ_ne_self, Nat.reduceAdd, Bool.false_eq_true, false_implies, implies_true, reduceCtorEq]
        refine ⟨by omega, ?_⟩
        rw [← Wa_set ys o (by omega), if_pos (by omega)]
        simp only [word, show (4 * (t : Int)).toNat = 4 * t by omega, show (4 * (t : Int) + 1).toNat = 4 * t + 1 by omega, show (4 * (t : Int) + 2).toNat = 4 * t + 2 by omega, show (4 * (t : Int) + 3).toNat = 4 * t + 3 by omega, Nat.add_assoc]
    · have e : t = 16 := by omega
      subst e
      refine loop_fam (fun t : Nat => 16 ≤ t ∧ t ≤ 64) (fun t => ⟨[(0, .ptr 1 0), (1, .ptr 2 0), (2, .sl 3 o 64 1), (6, .ptr 4 0), (8, .v (.int .i64 t))], ⟨[(1, some ⟨true, mk vs⟩), (2, some ⟨false, .ints .u32 ks⟩), (3, some ⟨false, .ints .u8 ys⟩), (4, some ⟨true, .ints .u32 (Wa ys o t)⟩)], x⟩, 5⟩) (fun t => 64 - t) 16 (by omega) ?_ ?_
      · exact sub0 rfl (by simp only [wfHp, hlt]; rfl) (by simp only [tmSub, hpSub, objSub, eqTm, eqHp, rn, lk, SV.ren, SV.renC, SV.renB, SV.renA, ren_ints, ren_strs, ren_pl, ren_svs, SV.v.injEq, Value.int.injEq, Body.ints.injEq, SV.ptr.injEq, SV.sl.injEq, Value.string.injEq, Value.bool.injEq, List.map_cons, List.map_nil, forall_const, Nat.reduceLT, Nat.lt_add_one, imp_self, true_and, and_true, and_self, ob_some, get_mk, lk_cons, ↓reduceIte, Nat.reduceEqDiff, ne_eq, not_true_eq_false, not_false_eq_true, Nat.one_ne_zero, Nat.zero_ne_one, Nat.succ_ne_self, Nat.reduceAdd, Bool.false_eq_true, false_implies, implies_true, reduceCtorEq]; rfl)
      · rintro t ⟨ht0, ht⟩
        simp -implicitDefEqProofs only [go_sem, ↓reduceIte, Nat.reduceEqDiff, Nat.reduceAdd, Nat.reduceMul, Nat.reduceLT, Nat.reduceLeDiff, Nat.reduceSub, Int.reduceToNat, Int.reduceLE, Int.reduceLT, reduceCtorEq, hC, c36]
        refine condK_of (fun h => ?_) (fun h => ?_)
        · simp (disch := omega) only [wrap_i64]
          and_intros
          all_goals try omega
          all_goals try (rw [Wa_len _ _ ht]; omega)
          refine kLoop_mk (t + 1) (by omega) (by omega) (sub0 rfl (by simp only [wfHp, hlt]; rfl) ?_)
          simp only [tmSub, hpSub, objSub, eqTm, eqHp, rn, lk, SV.ren, SV.renC, SV.renB, SV.renA, ren_ints, ren_strs, ren_pl, ren_svs, SV.v.injEq, Value.int.injEq, Body.ints.injEq, SV.ptr.injEq, SV.sl.injEq, Value.string.injEq, Value.bool.injEq, List.map_cons, List.map_nil, forall_const, Nat.reduceLT, Nat.lt_add_one, imp_self, true_and, and_true, and_self, ob_some, get_mk, lk_cons, ↓reduceIte, Nat.reduceEqDiff, ne_eq, not_true_eq_false, not_false_eq_true, Nat.one_ne_zero, Nat.zero_ne_one, Nat.succ_ne_self, Nat.reduceAdd, Bool.false_eq_true, false_implies, implies_true, reduceCtorEq]
          refine ⟨by omega, ?_⟩
          rw [← Wa_set ys o (by omega), if_neg (by omega)]
          simp only [show ((t : Int) - 15).toNat = t - 15 by omega, show ((t : Int) - 2).toNat = t - 2 by omega, show ((t : Int) - 16).toNat = t - 16 by omega, show ((t : Int) - 7).toNat = t - 7 by omega, Wa_get ys o (show t - 15 < t by omega), Wa_get ys o (show t - 2 < t by omega), Wa_get ys o (show t - 16 < t by omega), Wa_get ys o (show t - 7 < t by omega)]
          rfl
        · have e : t = 64 := by omega
          subst e
          have hW : (Wa ys o 64).length = 64 := Wa_len _ _ (Nat.le_refl _)
          unfold blk
          generalize Wa ys o 64 = W at hW ⊢
          refine ⟨by omega, hg _ _ _ hv (by omega) ⟨by omega, hg _ _ _ hv (by omega) ⟨by omega, hg _ _ _ hv (by omega) ⟨by omega, hg _ _ _ hv (by omega) ⟨by omega, hg _ _ _ hv (by omega) ⟨by omega, hg _ _ _ hv (by omega) ⟨by omega, hg _ _ _ hv (by omega) ⟨by omega, hg _ _ _ hv (by omega) ?_⟩⟩⟩⟩⟩⟩⟩⟩
          refine loop_fam (fun t : Nat => t ≤ 64) (fun t => ⟨[(0, .ptr 1 0), (1, .ptr 2 0), (6, .ptr 4 0), (136, .v (.int .i64 t)), (11, .v (.int .u32 ((Rd vs ks W t).getD 0 0))), (12, .v (.int .u32 ((Rd vs ks W t).getD 1 0))), (13, .v (.int .u32 ((Rd vs ks W t).getD 2 0))), (14, .v (.int .u32 ((Rd vs ks W t).getD 3 0))), (15, .v (.int .u32 ((Rd vs ks W t).getD 4 0))), (16, .v (.int .u32 ((Rd vs ks W t).getD 5 0))), (17, .v (.int .u32 ((Rd vs ks W t).getD 6 0))), (18, .v (.int .u32 ((Rd vs ks W t).getD 7 0)))], ⟨[(1, some ⟨true, mk vs⟩), (2, some ⟨false, .ints .u32 ks⟩), (4, some ⟨true, .ints .u32 W⟩)], x⟩, 5⟩) (fun t => 64 - t) 0 (by omega) ?_ ?_
          · exact sub0 rfl (by simp only [wfHp, hlt]; rfl) (by simp only [tmSub, hpSub, objSub, eqTm, eqHp, rn, lk, SV.ren, SV.renC, SV.renB, SV.renA, ren_ints, ren_strs, ren_pl, ren_svs, SV.v.injEq, Value.int.injEq, Body.ints.injEq, SV.ptr.injEq, SV.sl.injEq, Value.string.injEq, Value.bool.injEq, List.map_cons, List.map_nil, forall_const, Nat.reduceLT, Nat.lt_add_one, imp_self, true_and, and_true, and_self, ob_some, get_mk, lk_cons, ↓reduceIte, Nat.reduceEqDiff, ne_eq, not_true_eq_false, not_false_eq_true, Nat.one_ne_zero, Nat.zero_ne_one, Nat.succ_ne_self, Nat.reduceAdd, Bool.false_eq_true, false_implies, implies_true, reduceCtorEq]; exact ⟨rfl, rfl, rfl, rfl, rfl, rfl, rfl, rfl, rfl⟩)
          · intro t ht
            generalize hu : Rd vs ks W t = u
            simp -implicitDefEqProofs only [go_sem, ↓reduceIte, Nat.reduceEqDiff, Nat.reduceAdd, Nat.reduceMul, Nat.reduceLT, Nat.reduceLeDiff, Nat.reduceSub, Int.reduceToNat, Int.reduceLE, Int.reduceLT, reduceCtorEq, hC, c36]
            refine condK_of (fun h => ?_) (fun h => ?_)
            · simp (disch := omega) only [wrap_i64]
              and_intros
              all_goals try omega
              refine kLoop_mk (t + 1) (by omega) (by omega) (sub0 rfl (by simp only [wfHp, hlt]; rfl) ?_)
              simp only [tmSub, hpSub, objSub, eqTm, eqHp, rn, lk, SV.ren, SV.renC, SV.renB, SV.renA, ren_ints, ren_strs, ren_pl, ren_svs, SV.v.injEq, Value.int.injEq, Body.ints.injEq, SV.ptr.injEq, SV.sl.injEq, Value.string.injEq, Value.bool.injEq, List.map_cons, List.map_nil, forall_const, Nat.reduceLT, Nat.lt_add_one, imp_self, true_and, and_true, and_self, ob_some, get_mk, lk_cons, ↓reduceIte, Nat.reduceEqDiff, ne_eq, not_true_eq_false, not_false_eq_true, Nat.one_ne_zero, Nat.zero_ne_one, Nat.succ_ne_self, Nat.reduceAdd, Bool.false_eq_true, false_implies, implies_true, reduceCtorEq, Rd, hu, stp]
              exact ⟨by omega, rfl, rfl, rfl, rfl, rfl, rfl, rfl, rfl⟩
            · have e : t = 64 := by omega
              subst e
              rw [hu]
              refine ob_of rfl (ob_of (a := U8 u) rfl ?_)
              refine loop_fam (fun i : Nat => i ≤ 8) (fun i => ⟨[(0, .ptr 1 0), (209, .ai .u32 (U8 u)), (210, .v (.int .i64 i))], ⟨[(1, some ⟨true, mk (Va vs u i)⟩)], x⟩, 5⟩) (fun i => 8 - i) 0 (by omega) ?_ ?_
              · exact sub0 rfl (by simp only [wfHp, hlt]; rfl) (by simp only [tmSub, hpSub, objSub, eqTm, eqHp, rn, lk, SV.ren, SV.renC, SV.renB, SV.renA, ren_ints, ren_strs, ren_pl, ren_svs, SV.v.injEq, Value.int.injEq, Body.ints.injEq, SV.ptr.injEq, SV.sl.injEq, Value.string.injEq, Value.bool.injEq, List.map_cons, List.map_nil, forall_const, Nat.reduceLT, Nat.lt_add_one, imp_self, true_and, and_true, and_self, ob_some, get_mk, lk_cons, ↓reduceIte, Nat.reduceEqDiff, ne_eq, not_true_eq_false, not_false_eq_true, Nat.one_ne_zero, Nat.zero_ne_one, Nat.succ_ne_self, Nat.reduceAdd, Bool.false_eq_true, false_implies, implies_true, reduceCtorEq, Va_0 vs u hv]; rfl)
              · intro i hi
                simp -implicitDefEqProofs only [go_sem, ↓reduceIte, Nat.reduceEqDiff, Nat.reduceAdd, Nat.reduceMul, Nat.reduceLT, Nat.reduceLeDiff, Nat.reduceSub, Int.reduceToNat, Int.reduceLE, Int.reduceLT, reduceCtorEq]
                refine condK_of (fun h => ?_) (fun h => ?_)
                · simp (disch := omega) only [wrap_i64]
                  refine ⟨by omega, by simp [U8]; omega, by omega, hg _ _ _ (Va_len _ _ _) (by omega) ?_⟩
                  simp -implicitDefEqProofs only [go_sem, ↓reduceIte, Nat.reduceEqDiff, Nat.reduceAdd, Nat.reduceMul, Nat.reduceLT, Nat.reduceLeDiff, Nat.reduceSub, Int.reduceToNat, Int.reduceLE, Int.reduceLT, reduceCtorEq]
                  refine ⟨by omega, hs _ _ _ _ (Va_len vs u i) (by omega) ?_⟩
                  refine kLoop_mk (i + 1) (by omega) (by omega) (sub0 rfl (by simp only [wfHp, hlt]; rfl) ?_)
                  simp only [tmSub, hpSub, objSub, eqTm, eqHp, rn, lk, SV.ren, SV.renC, SV.renB, SV.renA, ren_ints, ren_strs, ren_pl, ren_svs, SV.v.injEq, Value.int.injEq, Body.ints.injEq, SV.ptr.injEq, SV.sl.injEq, Value.string.injEq, Value.bool.injEq, List.map_cons, List.map_nil, forall_const, Nat.reduceLT, Nat.lt_add_one, imp_self, true_and, and_true, and_self, ob_some, get_mk, lk_cons, ↓reduceIte, Nat.reduceEqDiff, ne_eq, not_true_eq_false, not_false_eq_true, Nat.one_ne_zero, Nat.zero_ne_one, Nat.succ_ne_self, Nat.reduceAdd, Bool.false_eq_true, false_implies, implies_true, reduceCtorEq]
                  refine ⟨by omega, ?_⟩
                  rw [Va_get _ _ (by omega), U8_get _ (by omega)]
                  exact congrArg mk (Va_set vs u (by omega))
                · have e : i = 8 := by omega
                  subst e
                  exact sub0 rfl (by simp only [wfHp, hlt]; rfl) (by simp only [tmSub, hpSub, objSub, eqTm, eqHp, rn, lk, SV.ren, SV.renC, SV.renB, SV.renA, ren_ints, ren_strs, ren_pl, ren_svs, SV.v.injEq, Value.int.injEq, Body.ints.injEq, SV.ptr.injEq, SV.sl.injEq, Value.string.injEq, Value.bool.injEq, List.map_cons, List.map_nil, forall_const, Nat.reduceLT, Nat.lt_add_one, imp_self, true_and, and_true, and_self, ob_some, get_mk, lk_cons, ↓reduceIte, Nat.reduceEqDiff, ne_eq, not_true_eq_false, not_false_eq_true, Nat.one_ne_zero, Nat.zero_ne_one, Nat.succ_ne_self, Nat.reduceAdd, Bool.false_eq_true, false_implies, implies_true, reduceCtorEq])
theorem w30d {mk : List Int → Body} {vs ks ys : List Int} {o : Nat} (hC : C 112 = det c36)
    (hg : ∀ vs i K, vs.length = 8 → i < 8 → K (.v (.int .u32 (vs.getD i 0))) → (mk vs).get i K)
    (hs : ∀ vs i y K, vs.length = 8 → i < 8 → K (mk (vs.set i y)) → (mk vs).set i (.v (.int .u32 y)) K)
    (hlt : ∀ vs n, (mk vs).lt (n + 5) = true) (hren : ∀ vs, (mk vs).ren [] = mk vs) (hv : vs.length = 8) (hk : ks.length = 64) (ho : o + 64 ≤ ys.length) :
    fnVC C m30 [.ptr 1 0, .ptr 2 0, .sl 3 o 64 1] ⟨[(1, some ⟨true, mk vs⟩), (2, some ⟨false, .ints .u32 ks⟩), (3, some ⟨false, .ints .u8 ys⟩)], x⟩ 5 fun v H' n' => Sub 5 ⟨[(0, .tup [])], ⟨[(1, some ⟨true, mk (blk vs ks ys o)⟩)], x⟩, 5⟩ ⟨[(0, v)], H', n'⟩ := by
  have hlt1 : ∀ n, (mk vs).lt (n + 5) = true := hlt vs
  unfold m30
  simp -implicitDefEqProofs only [go_sem, ↓reduceIte, Nat.reduceEqDiff, Nat.reduceAdd, Nat.reduceMul, Nat.reduceLT, Nat.reduceLeDiff, Nat.reduceSub, Int.reduceToNat, Int.reduceLE, Int.reduceLT, reduceCtorEq]
  refine loop_fam (fun t : Nat => t ≤ 16) (fun t => ⟨[(0, .ptr 1 0), (1, .ptr 2 0), (2, .sl 3 o 64 1), (6, .ptr 5 0), (24, .v (.int .i64 t))], ⟨[(1, some ⟨true, mk vs⟩), (2, some ⟨false, .ints .u32 ks⟩), (3, some ⟨false, .ints .u8 ys⟩), (5, some ⟨true, .ints .u32 (Wa ys o t)⟩)], x⟩, 6⟩) (fun t => 16 - t) 0 (by omega) ?_ ?_
  · exact sub0 rfl (by simp only [wfHp, hlt]; rfl) (by simp only [tmSub, hpSub, objSub, eqTm, eqHp, rn, lk, SV.ren, SV.renC, SV.renB, SV.renA, ren_ints, ren_strs, ren_pl, ren_svs, SV.v.injEq, Value.int.injEq, Body.ints.injEq, SV.ptr.injEq, SV.sl.injEq, Value.string.injEq, Value.bool.injEq, List.map_cons, List.map_nil, forall_const, Nat.reduceLT, Nat.lt_add_one, imp_self, true_and, and_true, and_self, ob_some, get_mk, lk_cons, ↓reduceIte, Nat.reduceEqDiff, ne_eq, not_true_eq_false, not_false_eq_true, Nat.one_ne_zero, Nat.zero_ne_one, Nat.succ_ne_self, Nat.reduceAdd, Bool.false_eq_true, false_implies, implies_true, reduceCtorEq]; exact ⟨rfl, rfl⟩)
  · intro t ht
    simp -implicitDefEqProofs only [go_sem, ↓reduceIte, Nat.reduceEqDiff, Nat.reduceAdd, Nat.reduceMul, Nat.reduceLT, Nat.reduceLeDiff, Nat.reduceSub, Int.reduceToNat, Int.reduceLE, Int.reduceLT, reduceCtorEq]
    refine condK_of (fun h => ?_) (fun h => ?_)
    · simp (disch := omega) only [wrap_i64]
      and_intros
      all_goals try omega
      · simp only [Wa_len _ _ (show t ≤ 64 by omega)]; omega
      · refine kLoop_mk (t + 1) (by omega) (by omega) (sub0 rfl (by simp only [wfHp, hlt]; rfl) ?_)
        simp only [tmSub, hpSub, objSub, eqTm, eqHp, rn, lk, SV.ren, SV.renC, SV.renB, SV.renA, ren_ints, ren_strs, ren_pl, ren_svs, SV.v.injEq, Value.int.injEq, Body.ints.injEq, SV.ptr.injEq, SV.sl.injEq, Value.string.injEq, Value.bool.injEq, List.map_cons, List.map_nil, forall_const, Nat.reduceLT, Nat.lt_add_one, imp_self, true_and, and_true, and_self, ob_some, get_mk, lk_cons, ↓reduceIte, Nat.reduceEqDiff, ne_eq, not_true_eq_false, not_false_eq_true, Nat.one_ne_zero, Nat.zero_ne_one, Nat.succ_ne_self, Nat.reduceAdd, Bool.false_eq_true, false_implies, implies_true, reduceCtorEq]
        refine ⟨by omega, ?_⟩
        rw [← Wa_set ys o (by omega), if_pos (by omega)]
        simp only [word, show (4 * (t : Int)).toNat = 4 * t by omega, show (4 * (t : Int) + 1).toNat = 4 * t + 1 by omega, show (4 * (t : Int) + 2).toNat = 4 * t + 2 by omega, show (4 * (t : Int) + 3).toNat = 4 * t + 3 by omega, Nat.add_assoc]
    · have e : t = 16 := by omega
      subst e
      refine loop_fam (fun t : Nat => 16 ≤ t ∧ t ≤ 64) (fun t => ⟨[(0, .ptr 1 0), (1, .ptr 2 0), (2, .sl 3 o 64 1), (6, .ptr 5 0), (8, .v (.int .i64 t))], ⟨[(1, some ⟨true, mk vs⟩), (2, some ⟨false, .ints .u32 ks⟩), (3, some ⟨false, .ints .u8 ys⟩), (5, some ⟨true, .ints .u32 (Wa ys o t)⟩)], x⟩, 6⟩) (fun t => 64 - t) 16 (by omega) ?_ ?_
      · exact sub0 rfl (by simp only [wfHp, hlt]; rfl) (by simp only [tmSub, hpSub, objSub, eqTm, eqHp, rn, lk, SV.ren, SV.renC, SV.renB, SV.renA, ren_ints, ren_strs, ren_pl, ren_svs, SV.v.injEq, Value.int.injEq, Body.ints.injEq, SV.ptr.injEq, SV.sl.injEq, Value.string.injEq, Value.bool.injEq, List.map_cons, List.map_nil, forall_const, Nat.reduceLT, Nat.lt_add_one, imp_self, true_and, and_true, and_self, ob_some, get_mk, lk_cons, ↓reduceIte, Nat.reduceEqDiff, ne_eq, not_true_eq_false, not_false_eq_true, Nat.one_ne_zero, Nat.zero_ne_one, Nat.succ_ne_self, Nat.reduceAdd, Bool.false_eq_true, false_implies, implies_true, reduceCtorEq]; rfl)
      · rintro t ⟨ht0, ht⟩
        simp -implicitDefEqProofs only [go_sem, ↓reduceIte, Nat.reduceEqDiff, Nat.reduceAdd, Nat.reduceMul, Nat.reduceLT, Nat.reduceLeDiff, Nat.reduceSub, Int.reduceToNat, Int.reduceLE, Int.reduceLT, reduceCtorEq, hC, c36]
        refine condK_of (fun h => ?_) (fun h => ?_)
        · simp (disch := omega) only [wrap_i64]
          and_intros
          all_goals try omega
          all_goals try (rw [Wa_len _ _ ht]; omega)
          refine kLoop_mk (t + 1) (by omega) (by omega) (sub0 rfl (by simp only [wfHp, hlt]; rfl) ?_)
          simp only [tmSub, hpSub, objSub, eqTm, eqHp, rn, lk, SV.ren, SV.renC, SV.renB, SV.renA, ren_ints, ren_strs, ren_pl, ren_svs, SV.v.injEq, Value.int.injEq, Body.ints.injEq, SV.ptr.injEq, SV.sl.injEq, Value.string.injEq, Value.bool.injEq, List.map_cons, List.map_nil, forall_const, Nat.reduceLT, Nat.lt_add_one, imp_self, true_and, and_true, and_self, ob_some, get_mk, lk_cons, ↓reduceIte, Nat.reduceEqDiff, ne_eq, not_true_eq_false, not_false_eq_true, Nat.one_ne_zero, Nat.zero_ne_one, Nat.succ_ne_self, Nat.reduceAdd, Bool.false_eq_true, false_implies, implies_true, reduceCtorEq]
          refine ⟨by omega, ?_⟩
          rw [← Wa_set ys o (by omega), if_neg (by omega)]
          simp only [show ((t : Int) - 15).toNat = t - 15 by omega, show ((t : Int) - 2).toNat = t - 2 by omega, show ((t : Int) - 16).toNat = t - 16 by omega, show ((t : Int) - 7).toNat = t - 7 by omega, Wa_get ys o (show t - 15 < t by omega), Wa_get ys o (show t - 2 < t by omega), Wa_get ys o (show t - 16 < t by omega), Wa_get ys o (show t - 7 < t by omega)]
          rfl
        · have e : t = 64 := by omega
          subst e
          have hW : (Wa ys o 64).length = 64 := Wa_len _ _ (Nat.le_refl _)
          unfold blk
          generalize Wa ys o 64 = W at hW ⊢
          refine ⟨by omega, hg _ _ _ hv (by omega) ⟨by omega, hg _ _ _ hv (by omega) ⟨by omega, hg _ _ _ hv (by omega) ⟨by omega, hg _ _ _ hv (by omega) ⟨by omega, hg _ _ _ hv (by omega) ⟨by omega, hg _ _ _ hv (by omega) ⟨by omega, hg _ _ _ hv (by omega) ⟨by omega, hg _ _ _ hv (by omega) ?_⟩⟩⟩⟩⟩⟩⟩⟩
          refine loop_fam (fun t : Nat => t ≤ 64) (fun t => ⟨[(0, .ptr 1 0), (1, .ptr 2 0), (6, .ptr 5 0), (136, .v (.int .i64 t)), (11, .v (.int .u32 ((Rd vs ks W t).getD 0 0))), (12, .v (.int .u32 ((Rd vs ks W t).getD 1 0))), (13, .v (.int .u32 ((Rd vs ks W t).getD 2 0))), (14, .v (.int .u32 ((Rd vs ks W t).getD 3 0))), (15, .v (.int .u32 ((Rd vs ks W t).getD 4 0))), (16, .v (.int .u32 ((Rd vs ks W t).getD 5 0))), (17, .v (.int .u32 ((Rd vs ks W t).getD 6 0))), (18, .v (.int .u32 ((Rd vs ks W t).getD 7 0)))], ⟨[(1, some ⟨true, mk vs⟩), (2, some ⟨false, .ints .u32 ks⟩), (5, some ⟨true, .ints .u32 W⟩)], x⟩, 6⟩) (fun t => 64 - t) 0 (by omega) ?_ ?_
          · exact sub0 rfl (by simp only [wfHp, hlt]; rfl) (by simp only [tmSub, hpSub, objSub, eqTm, eqHp, rn, lk, SV.ren, SV.renC, SV.renB, SV.renA, ren_ints, ren_strs, ren_pl, ren_svs, SV.v.injEq, Value.int.injEq, Body.ints.injEq, SV.ptr.injEq, SV.sl.injEq, Value.string.injEq, Value.bool.injEq, List.map_cons, List.map_nil, forall_const, Nat.reduceLT, Nat.lt_add_one, imp_self, true_and, and_true, and_self, ob_some, get_mk, lk_cons, ↓reduceIte, Nat.reduceEqDiff, ne_eq, not_true_eq_false, not_false_eq_true, Nat.one_ne_zero, Nat.zero_ne_one, Nat.succ_ne_self, Nat.reduceAdd, Bool.false_eq_true, false_implies, implies_true, reduceCtorEq]; exact ⟨rfl, rfl, rfl, rfl, rfl, rfl, rfl, rfl, rfl⟩)
          · intro t ht
            generalize hu : Rd vs ks W t = u
            simp -implicitDefEqProofs only [go_sem, ↓reduceIte, Nat.reduceEqDiff, Nat.reduceAdd, Nat.reduceMul, Nat.reduceLT, Nat.reduceLeDiff, Nat.reduceSub, Int.reduceToNat, Int.reduceLE, Int.reduceLT, reduceCtorEq, hC, c36]
            refine condK_of (fun h => ?_) (fun h => ?_)
            · simp (disch := omega) only [wrap_i64]
              and_intros
              all_goals try omega
              refine kLoop_mk (t + 1) (by omega) (by omega) (sub0 rfl (by simp only [wfHp, hlt]; rfl) ?_)
              simp only [tmSub, hpSub, objSub, eqTm, eqHp, rn, lk, SV.ren, SV.renC, SV.renB, SV.renA, ren_ints, ren_strs, ren_pl, ren_svs, SV.v.injEq, Value.int.injEq, Body.ints.injEq, SV.ptr.injEq, SV.sl.injEq, Value.string.injEq, Value.bool.injEq, List.map_cons, List.map_nil, forall_const, Nat.reduceLT, Nat.lt_add_one, imp_self, true_and, and_true, and_self, ob_some, get_mk, lk_cons, ↓reduceIte, Nat.reduceEqDiff, ne_eq, not_true_eq_false, not_false_eq_true, Nat.one_ne_zero, Nat.zero_ne_one, Nat.succ_ne_self, Nat.reduceAdd, Bool.false_eq_true, false_implies, implies_true, reduceCtorEq, Rd, hu, stp]
              exact ⟨by omega, rfl, rfl, rfl, rfl, rfl, rfl, rfl, rfl⟩
            · have e : t = 64 := by omega
              subst e
              rw [hu]
              refine ob_of rfl (ob_of (a := U8 u) rfl ?_)
              refine loop_fam (fun i : Nat => i ≤ 8) (fun i => ⟨[(0, .ptr 1 0), (209, .ai .u32 (U8 u)), (210, .v (.int .i64 i))], ⟨[(1, some ⟨true, mk (Va vs u i)⟩)], x⟩, 6⟩) (fun i => 8 - i) 0 (by omega) ?_ ?_
              · exact sub0 rfl (by simp only [wfHp, hlt]; rfl) (by simp only [tmSub, hpSub, objSub, eqTm, eqHp, rn, lk, SV.ren, SV.renC, SV.renB, SV.renA, ren_ints, ren_strs, ren_pl, ren_svs, SV.v.injEq, Value.int.injEq, Body.ints.injEq, SV.ptr.injEq, SV.sl.injEq, Value.string.injEq, Value.bool.injEq, List.map_cons, List.map_nil, forall_const, Nat.reduceLT, Nat.lt_add_one, imp_self, true_and, and_true, and_self, ob_some, get_mk, lk_cons, ↓reduceIte, Nat.reduceEqDiff, ne_eq, not_true_eq_false, not_false_eq_true, Nat.one_ne_zero, Nat.zero_ne_one, Nat.succ_ne_self, Nat.reduceAdd, Bool.false_eq_true, false_implies, implies_true, reduceCtorEq, Va_0 vs u hv]; rfl)
              · intro i hi
                simp -implicitDefEqProofs only [go_sem, ↓reduceIte, Nat.reduceEqDiff, Nat.reduceAdd, Nat.reduceMul, Nat.reduceLT, Nat.reduceLeDiff, Nat.reduceSub, Int.reduceToNat, Int.reduceLE, Int.reduceLT, reduceCtorEq]
                refine condK_of (fun h => ?_) (fun h => ?_)
                · simp (disch := omega) only [wrap_i64]
                  refine ⟨by omega, by simp [U8]; omega, by omega, hg _ _ _ (Va_len _ _ _) (by omega) ?_⟩
                  simp -implicitDefEqProofs only [go_sem, ↓reduceIte, Nat.reduceEqDiff, Nat.reduceAdd, Nat.reduceMul, Nat.reduceLT, Nat.reduceLeDiff, Nat.reduceSub, Int.reduceToNat, Int.reduceLE, Int.reduceLT, reduceCtorEq]
                  refine ⟨by omega, hs _ _ _ _ (Va_len vs u i) (by omega) ?_⟩
                  refine kLoop_mk (i + 1) (by omega) (by omega) (sub0 rfl (by simp only [wfHp, hlt]; rfl) ?_)
                  simp only [tmSub, hpSub, objSub, eqTm, eqHp, rn, lk, SV.ren, SV.renC, SV.renB, SV.renA, ren_ints, ren_strs, ren_pl, ren_svs, SV.v.injEq, Value.int.injEq, Body.ints.injEq, SV.ptr.injEq, SV.sl.injEq, Value.string.injEq, Value.bool.injEq, List.map_cons, List.map_nil, forall_const, Nat.reduceLT, Nat.lt_add_one, imp_self, true_and, and_true, and_self, ob_some, get_mk, lk_cons, ↓reduceIte, Nat.reduceEqDiff, ne_eq, not_true_eq_false, not_false_eq_true, Nat.one_ne_zero, Nat.zero_ne_one, Nat.succ_ne_self, Nat.reduceAdd, Bool.false_eq_true, false_implies, implies_true, reduceCtorEq]
                  refine ⟨by omega, ?_⟩
                  rw [Va_get _ _ (by omega), U8_get _ (by omega)]
                  exact congrArg mk (Va_set vs u (by omega))
                · have e : i = 8 := by omega
                  subst e
                  exact sub0 rfl (by simp only [wfHp, hlt]; rfl) (by simp only [tmSub, hpSub, objSub, eqTm, eqHp, rn, lk, SV.ren, SV.renC, SV.renB, SV.renA, ren_ints, ren_strs, ren_pl, ren_svs, SV.v.injEq, Value.int.injEq, Body.ints.injEq, SV.ptr.injEq, SV.sl.injEq, Value.string.injEq, Value.bool.injEq, List.map_cons, List.map_nil, forall_const, Nat.reduceLT, Nat.lt_add_one, imp_self, true_and, and_true, and_self, ob_some, get_mk, lk_cons, ↓reduceIte, Nat.reduceEqDiff, ne_eq, not_true_eq_false, not_false_eq_true, Nat.one_ne_zero, Nat.zero_ne_one, Nat.succ_ne_self, Nat.reduceAdd, Bool.false_eq_true, false_implies, implies_true, reduceCtorEq])
variable {C : Tab} {H : Hp} {n : Nat} {x : Nat → Option SO}
def be4 (x : Int) : List Int := [IntKind.u8.wrap (ishr .u32 x 24), IntKind.u8.wrap (ishr .u32 x 16), IntKind.u8.wrap (ishr .u32 x 8), IntKind.u8.wrap x]
def be8 (x : Int) : List Int := [IntKind.u8.wrap (ishr .u64 x 56), IntKind.u8.wrap (ishr .u64 x 48), IntKind.u8.wrap (ishr .u64 x 40), IntKind.u8.wrap (ishr .u64 x 32), IntKind.u8.wrap (ishr .u64 x 24), IntKind.u8.wrap (ishr .u64 x 16), IntKind.u8.wrap (ishr .u64 x 8), IntKind.u8.wrap x]
def outb (ws : List Int) : List Int := ws.flatMap be4
theorem outb_len (ws : List Int) : (outb ws).length = 4 * ws.length := by
  induction ws with
  | nil => rfl
  | cons a l ih => simp only [outb, List.flatMap_cons, List.length_append, List.length_cons] at ih ⊢; rw [ih]; simp [be4]; omega
theorem take_succ_getD {l : List Int} {t : Nat} (h : t < l.length) : l.take (t + 1) = l.take t ++ [l.getD t 0] := by
  rw [List.take_add_one, List.getD_eq_getElem?_getD, List.getElem?_eq_getElem h]; rfl
theorem w32 {xs : List Int} (hx : xs.length = 8) : fnVC C m32 [.ai .u32 xs] ⟨[], x⟩ 1 fun v H' n' => Sub 1 ⟨[(0, .v (.string (tx (outb xs))))], ⟨[], x⟩, 1⟩ ⟨[(0, v)], H', n'⟩ := by
  unfold m32
  simp -implicitDefEqProofs only [go_sem, ↓reduceIte, Nat.reduceEqDiff, Nat.reduceAdd, Nat.reduceMul, Nat.reduceLT, Nat.reduceLeDiff, Nat.reduceSub, Int.reduceToNat, Int.reduceLE, Int.reduceLT, reduceCtorEq]
  and_intros
  all_goals try omega
  have e8 : xs.take 8 = xs := List.take_of_length_le (by omega)
  rw [e8]
  refine loop_fam (fun t : Nat => t ≤ 8) (fun t => ⟨[(3, .sl 2 0 (outb (xs.take t)).length 1), (6, .ai .u32 xs), (7, .v (.int .i64 t))], ⟨[(2, some ⟨true, .ints .u8 (outb (xs.take t))⟩)], x⟩, 3⟩) (fun t => 8 - t) 0 (by omega) ?_ ?_
  · exact sub_mk [(2, 0)] rfl rfl rfl (by simp only [tmSub, hpSub, objSub, eqTm, eqHp, rn, lk, SV.ren, SV.renC, SV.renB, SV.renA, ren_ints, ren_strs, ren_pl, ren_svs, SV.v.injEq, Value.int.injEq, Body.ints.injEq, SV.ptr.injEq, SV.sl.injEq, Value.string.injEq, Value.bool.injEq, List.map_cons, List.map_nil, forall_const, Nat.reduceLT, Nat.lt_add_one, imp_self, true_and, and_true, and_self, ob_some, get_mk, lk_cons, ↓reduceIte, Nat.reduceEqDiff, ne_eq, not_true_eq_false, not_false_eq_true, Nat.one_ne_zero, Nat.zero_ne_one, Nat.succ_ne_self, Nat.reduceAdd, Bool.false_eq_true, false_implies, implies_true, reduceCtorEq]; exact ⟨⟨rfl, rfl⟩, rfl⟩)
  · intro t ht
    simp -implicitDefEqProofs only [go_sem, ↓reduceIte, Nat.reduceEqDiff, Nat.reduceAdd, Nat.reduceMul, Nat.reduceLT, Nat.reduceLeDiff, Nat.reduceSub, Int.reduceToNat, Int.reduceLE, Int.reduceLT, reduceCtorEq]
    refine condK_of (fun h => ?_) (fun h => ?_)
    · simp (disch := omega) only [wrap_i64]
      have hl := outb_len (xs.take t)
      rw [List.length_take] at hl
      and_intros
      all_goals try omega
      refine kLoop_mk (t + 1) (by omega) (by omega) (sub_mk [(2, 4)] rfl rfl rfl ?_)
      simp only [tmSub, hpSub, objSub, eqTm, eqHp, rn, lk, SV.ren, SV.renC, SV.renB, SV.renA, ren_ints, ren_strs, ren_pl, ren_svs, SV.v.injEq, Value.int.injEq, Body.ints.injEq, SV.ptr.injEq, SV.sl.injEq, Value.string.injEq, Value.bool.injEq, List.map_cons, List.map_nil, forall_const, Nat.reduceLT, Nat.lt_add_one, imp_self, true_and, and_true, and_self, ob_some, get_mk, lk_cons, ↓reduceIte, Nat.reduceEqDiff, ne_eq, not_true_eq_false, not_false_eq_true, Nat.one_ne_zero, Nat.zero_ne_one, Nat.succ_ne_self, Nat.reduceAdd, Bool.false_eq_true, false_implies, implies_true, reduceCtorEq]
      have e : outb (xs.take (t + 1)) = outb (xs.take t) ++ be4 (xs.getD t 0) := by
        rw [take_succ_getD (by omega)]; simp [outb]
      rw [e]
      refine ⟨⟨by simp [be4], by omega⟩, rfl⟩
    · have e : t = 8 := by omega
      subst e
      simp only [e8]
      exact sub_val rfl (by decide) (by decide) rfl
def c28 : Ctr := fun args H n => match args with
  | [] => some (.ai .u32 iv, H, n)
  | _ => none
def c29 : Ctr := fun args H n => match args with
  | [] => if n < 1000 then some (.ptr n 0, H.put n ⟨true, .ints .u32 kk⟩, n + 1) else none
  | _ => none
def c32 : Ctr := fun args H n => match args with
  | [.ai .u32 xs] => if xs.length = 8 then some (.v (.string (tx (outb xs))), H, n) else none
  | _ => none
def restOf (l : List SV) : Option (Value × Nat × Nat × Nat × Nat × Value) := match l with
  | [.v b, .sl r q m z, .v l] => some (b, r, q, m, z, l)
  | _ => none
theorem restOf_mk {b l : Value} {r q m z : Nat} : restOf [.v b, .sl r q m z, .v l] = some (b, r, q, m, z, l) := rfl
def svm (vs : List Int) (r : List SV) : Body := .sv (vs.map (fun y => .v (.int .u32 y)) ++ r)
def wordsOf (b : Body) : Option (List Int × (List Int → Body)) := match b with
  | .ints .u32 vs => some (vs, fun vs => .ints .u32 vs)
  | .sv cs => (intsOf .u32 (cs.take 8)).bind fun vs => (restOf (cs.drop 8)).map fun _ => (vs, fun vs => svm vs (cs.drop 8))
  | _ => none
theorem wordsOf_ints {vs : List Int} : wordsOf (.ints .u32 vs) = some (vs, fun vs => .ints .u32 vs) := rfl
theorem wordsOf_sv {cs : List SV} : wordsOf (.sv cs) = (intsOf .u32 (cs.take 8)).bind fun vs => (restOf (cs.drop 8)).map fun _ => (vs, fun vs => svm vs (cs.drop 8)) := rfl
def f30 (i j p o : Nat) (H : Hp) (n : Nat) : Option (SV × Hp × Nat) :=
  (H.get i).bind fun s => (H.get j).bind fun t => (H.get p).bind fun u => (wordsOf s.b).bind fun vm => (intsB .u32 t.b).bind fun ks => (intsB .u8 u.b).bind fun ys =>
    if s.wr = true ∧ vm.1.length = 8 ∧ ks.length = 64 ∧ o + 64 ≤ ys.length ∧ 0 < i ∧ i < 1000 ∧ i ≠ j ∧ i ≠ p ∧ j ≠ 0 ∧ p ≠ 0 then some (.tup [], H.put i ⟨true, vm.2 (blk vm.1 ks ys o)⟩, n) else none
def c30 : Ctr := fun args H n => match args with
  | [.ptr i 0, .ptr j 0, .sl p o 64 1] => f30 i j p o H n
  | _ => none
def pad (ys : List Int) : List Int := ((ys ++ [128]) ++ List.replicate (Int.toNat ((119 - (ys.length : Int).tmod 64).tmod 64)) 0) ++ be8 (IntKind.u64.wrap (IntKind.u64.wrap ys.length * 8))
def Hs (B : List Int) : Nat → List Int
  | 0 => iv
  | j + 1 => blk (Hs B j) kk B (64 * j)
def sha (ys : List Int) : ByteArray := tx (outb (Hs (pad ys) ((pad ys).length / 64)))
theorem blk_len (vs ks ys : List Int) (o : Nat) : (blk vs ks ys o).length = 8 := Va_len _ _ _
theorem Hs_len (B : List Int) (j : Nat) : (Hs B j).length = 8 := by
  cases j with
  | zero => rfl
  | succ j => exact blk_len _ _ _ _
theorem pad_len (ys : List Int) : (pad ys).length % 64 = 0 ∧ 64 ≤ (pad ys).length ∧ (pad ys).length ≤ ys.length + 73 := by
  have e : Int.toNat ((119 - (ys.length : Int).tmod 64).tmod 64) = (119 - ys.length % 64) % 64 := by
    have e1 : (ys.length : Int).tmod 64 = (ys.length : Int) % 64 := Int.tmod_eq_emod_of_nonneg (by omega)
    rw [e1, Int.tmod_eq_emod_of_nonneg (by omega)]; omega
  simp only [pad, List.length_append, List.length_replicate, List.length_cons, List.length_nil, e, be8]
  omega
theorem w23 {zs : List Int} {o m : Nat} (hom : o + m ≤ zs.length) (hm : m ≤ 1099511627776) (h28 : C 101 = det c28) (h29 : C 102 = det c29) (h30 : C 103 = det c30) (h32 : C 104 = det c32) :
    fnVC C m23 [.sl 1 o m 1] ⟨[(1, some ⟨true, .ints .u8 zs⟩)], x⟩ 2 fun v H' n' => Sub 2 ⟨[(0, .v (.string (sha ((zs.drop o).take m))))], ⟨[(1, none)], x⟩, 2⟩ ⟨[(0, v)], H', n'⟩ := by
  unfold m23
  simp -implicitDefEqProofs only [go_sem, ↓reduceIte, Nat.reduceEqDiff, Nat.reduceAdd, Nat.reduceMul, Nat.reduceLT, Nat.reduceLeDiff, Nat.reduceSub, Int.reduceToNat, Int.reduceLE, Int.reduceLT, reduceCtorEq, h28, h29, c28, c29]
  have hz : ((zs.drop o).take m).length = m := by simp; omega
  refine ⟨by decide, by decide, by omega, by omega, by omega, ?_⟩
  generalize (zs.drop o).take m = ys at hz ⊢
  subst hz
  have hl := hm
  have ez : (IntKind.i64.wrap (119 - (ys.length : Int).tmod 64)).tmod 64 = ((Int.toNat ((119 - (ys.length : Int).tmod 64).tmod 64) : Nat) : Int) := by
    have e1 : (ys.length : Int).tmod 64 = (ys.length : Int) % 64 := Int.tmod_eq_emod_of_nonneg (by omega)
    rw [e1, wrap_i64 (by omega) (by omega), Int.tmod_eq_emod_of_nonneg (by omega)]; omega
  have hp := pad_len ys
  have e1 : List.take (ys.length + 1) (ys ++ [128]) = ys ++ [128] := List.take_of_length_le (by simp)
  simp only [ez, e1, Int.toNat_natCast]
  have hB : pad ys = ((ys ++ [128]) ++ List.replicate (Int.toNat ((119 - (ys.length : Int).tmod 64).tmod 64)) 0) ++ be8 (IntKind.u64.wrap (IntKind.u64.wrap ys.length * 8)) := rfl
  have hL : (pad ys).length = ys.length + 1 + Int.toNat ((119 - (ys.length : Int).tmod 64).tmod 64) + 8 := by
    rw [hB]; simp [be8]; omega
  generalize Int.toNat ((119 - (ys.length : Int).tmod 64).tmod 64) = Z at hB hL ⊢
  have e2 : List.take (ys.length + 1 + Z) (ys ++ [128] ++ List.replicate Z 0) = ys ++ [128] ++ List.replicate Z 0 := List.take_of_length_le (by simp; omega)
  simp only [e2]
  refine ⟨by omega, by omega, by omega, by simp, by omega, by omega, by simp; omega, rfl, ?_⟩
  refine loop_fam (fun j : Nat => 64 * j ≤ (pad ys).length) (fun j => ⟨[(0, .sl 6 (64 * j) ((pad ys).length - 64 * j) 1), (5, .ptr 8 0), (6, .ptr 7 0)], ⟨[(6, some ⟨true, .ints .u8 (pad ys)⟩), (7, some ⟨true, .ints .u32 kk⟩), (8, some ⟨true, .ints .u32 (Hs (pad ys) j)⟩), (1, none)], x⟩, 9⟩) (fun j => (pad ys).length - 64 * j) 0 (by omega) ?_ ?_
  · refine sub0 rfl rfl ?_
    simp only [tmSub, hpSub, objSub, eqTm, eqHp, rn, lk, SV.ren, SV.renC, SV.renB, SV.renA, ren_ints, ren_strs, ren_pl, ren_svs, SV.v.injEq, Value.int.injEq, Body.ints.injEq, SV.ptr.injEq, SV.sl.injEq, Value.string.injEq, Value.bool.injEq, List.map_cons, List.map_nil, forall_const, Nat.reduceLT, Nat.lt_add_one, imp_self, true_and, and_true, and_self, ob_some, get_mk, lk_cons, ↓reduceIte, Nat.reduceEqDiff, ne_eq, not_true_eq_false, not_false_eq_true, Nat.one_ne_zero, Nat.zero_ne_one, Nat.succ_ne_self, Nat.reduceAdd, Bool.false_eq_true, false_implies, implies_true, reduceCtorEq]
    exact ⟨by omega, hB.symm, rfl⟩
  · intro j hj
    simp -implicitDefEqProofs only [go_sem, ↓reduceIte, Nat.reduceEqDiff, Nat.reduceAdd, Nat.reduceMul, Nat.reduceLT, Nat.reduceLeDiff, Nat.reduceSub, Int.reduceToNat, Int.reduceLE, Int.reduceLT, reduceCtorEq, h30, c30, f30, wordsOf_ints, h32, c32]
    refine condK_of (fun h => ?_) (fun h => ?_)
    · refine ⟨by omega, ⟨Hs_len _ _, rfl, by omega⟩, by omega, kLoop_mk (j + 1) (by omega) (by omega) (sub0 rfl rfl ?_)⟩
      simp only [tmSub, hpSub, objSub, eqTm, eqHp, rn, lk, SV.ren, SV.renC, SV.renB, SV.renA, ren_ints, ren_strs, ren_pl, ren_svs, SV.v.injEq, Value.int.injEq, Body.ints.injEq, SV.ptr.injEq, SV.sl.injEq, Value.string.injEq, Value.bool.injEq, List.map_cons, List.map_nil, forall_const, Nat.reduceLT, Nat.lt_add_one, imp_self, true_and, and_true, and_self, ob_some, get_mk, lk_cons, ↓reduceIte, Nat.reduceEqDiff, ne_eq, not_true_eq_false, not_false_eq_true, Nat.one_ne_zero, Nat.zero_ne_one, Nat.succ_ne_self, Nat.reduceAdd, Bool.false_eq_true, false_implies, implies_true, reduceCtorEq]
      exact ⟨⟨by omega, by omega⟩, rfl⟩
    · have e : j = (pad ys).length / 64 := by omega
      have e8 : List.take 8 (Hs (pad ys) j) = Hs (pad ys) j := List.take_of_length_le (by rw [Hs_len]; omega)
      rw [e8]
      refine ⟨by rw [Hs_len]; omega, Hs_len _ _, sub_mk [] rfl rfl rfl ?_⟩
      subst e
      simp only [tmSub, hpSub, objSub, eqTm, eqHp, rn, lk, SV.ren, SV.renC, SV.renB, SV.renA, ren_ints, ren_strs, ren_pl, ren_svs, SV.v.injEq, Value.int.injEq, Body.ints.injEq, SV.ptr.injEq, SV.sl.injEq, Value.string.injEq, Value.bool.injEq, List.map_cons, List.map_nil, forall_const, Nat.reduceLT, Nat.lt_add_one, imp_self, true_and, and_true, and_self, ob_some, get_mk, lk_cons, ↓reduceIte, Nat.reduceEqDiff, ne_eq, not_true_eq_false, not_false_eq_true, Nat.one_ne_zero, Nat.zero_ne_one, Nat.succ_ne_self, Nat.reduceAdd, Bool.false_eq_true, false_implies, implies_true, reduceCtorEq]
      rfl
variable {P : Program} {C : Tab} {H : Hp} {n : Nat} {x : Nat → Option SO}
theorem lift_w1 {f i : Nat} {argsc : List SV} {b : Body} {v : SV} {r : Option SO} (hg : H.get i = some ⟨true, b⟩) (hb : ∀ π, b.ren π = b) (hlt : b.lt 2 = true) (h0 : 0 < i) (h1 : i < 1000) (hr : (match r with
    | some o => o.wr
    | none => true) = true) (hargs : argsc.all (ltT 2) = true)
    (hs : SpecAt P f argsc ⟨[(1, some ⟨true, b⟩)], H.x⟩ 2 v ⟨[(1, r)], H.x⟩ 2) : SpecAt P f (argsc.map (SV.ren [(1, i)])) H n (v.ren [(1, i)]) ⟨(i, r.map (SO.ren [(1, i)])) :: H.l, H.x⟩ n := by
  have := lift hs [(1, i)] (n := n) (by cases r <;> simp_all [canon, wrAt, lk]) (by simp [dense, lk, List.range, List.range.loop]) hargs (by omega) (by simp [wfHp, hlt]) (by simp [okπ]) ⟨by
    unfold objSub
    rw [if_neg (by simp [rn, lk]; omega)]
    refine ⟨fun _ => by simpa [rn, lk] using h1, ?_⟩
    rw [show rn [(1, i)] 1 = i by simp [rn, lk], hg]
    exact ⟨fun _ => rfl, (hb _).symm⟩, trivial⟩ (by simp [apartB, apart1]) (by simp [wrNZ, rn, lk]; omega) (by omega)
  simpa [newIds, updOf, wrAt, lk, rn] using this
def f23 (i o m : Nat) (H : Hp) (n : Nat) : Option (SV × Hp × Nat) :=
  (H.get i).bind fun s => (intsB .u8 s.b).bind fun zs => if s.wr = true ∧ o + m ≤ zs.length ∧ m ≤ 1099511627776 ∧ 0 < i ∧ i < 1000 then some (.v (.string (sha ((zs.drop o).take m))), H.del i, n) else none
def c23 : Ctr := fun args H n => match args with
  | [.sl i o m 1] => f23 i o m H n
  | _ => none
theorem k45 (h : OKT P C) (t : trFn P 115 = some m45) : OKT P (C.add 115 (det c45)) := h.add t fun args H n v H' n' hc => by
  unfold c45 at hc
  split at hc
  · cases hc; exact h.pure t (w45 _ _)
  · cases hc
theorem k36 (h : OKT P C) (t : trFn P 112 = some m36) (h45 : C 115 = det c45) : OKT P (C.add 112 (det c36)) := h.add t fun args H n v H' n' hc => by
  unfold c36 at hc
  split at hc
  · split at hc
    · rename_i hk; cases hc; exact h.pure t (w36 h45 _ _ hk)
    · cases hc
  · cases hc
def c43 : Ctr := c36
theorem k43 (h : OKT P C) (t : trFn P 85 = some m43) : OKT P (C.add 85 (det c43)) := h.add t fun args H n v H' n' hc => by
  unfold c43 c36 at hc
  split at hc
  · split at hc
    · rename_i hk; cases hc; exact h.pure t (w43 _ _ hk)
    · cases hc
  · cases hc
theorem k28 (h : OKT P C) (t : trFn P 101 = some m28) : OKT P (C.add 101 (det c28)) := h.add t fun args H n v H' n' hc => by
  unfold c28 at hc
  split at hc
  · cases hc; exact lift_pure (h.spec t w28) rfl
  · cases hc
def c33 : Ctr := fun args H n => match args with
  | [] => some (.ai .u32 kk, H, n)
  | _ => none
theorem k33 (h : OKT P C) (t : trFn P 74 = some m33) : OKT P (C.add 74 (det c33)) := h.add t fun args H n v H' n' hc => by
  unfold c33 at hc
  split at hc
  · cases hc; exact lift_pure (h.spec t w33) rfl
  · cases hc
theorem k29 (h : OKT P C) (t : trFn P 102 = some m29) : OKT P (C.add 102 (det c29)) := h.add t fun args H n v H' n' hc => by
  unfold c29 at hc
  split at hc
  · split at hc
    · rename_i hn; cases hc
      exact lift (n := n) (h.spec t (w29 (x := H.x))) [] rfl rfl rfl (by omega) rfl rfl trivial rfl rfl (by omega)
    · cases hc
  · cases hc
theorem k32 (h : OKT P C) (t : trFn P 104 = some m32) : OKT P (C.add 104 (det c32)) := h.add t fun args H n v H' n' hc => by
  unfold c32 at hc
  split at hc
  · split at hc
    · rename_i hx; cases hc; exact lift_pure (h.spec t (w32 hx)) rfl
    · cases hc
  · cases hc
theorem k23 (h : OKT P C) (t : trFn P 84 = some m23) (h28 : C 101 = det c28) (h29 : C 102 = det c29) (h30 : C 103 = det c30) (h32 : C 104 = det c32) : OKT P (C.add 84 (det c23)) := h.add t fun args H n v H' n' hc => by
  unfold c23 at hc
  split at hc
  · rename_i i o m
    unfold f23 at hc
    simp only [Option.bind_eq_some_iff] at hc
    obtain ⟨⟨wr, b⟩, hg, zs, hz, hc⟩ := hc
    have := intsB_some hz; subst this
    split at hc
    · rename_i hcond
      obtain ⟨q1, q2, q3, q4, q5⟩ := hcond
      simp only at q1; subst q1
      cases hc
      have := lift_w1 (n := n) (r := none) hg (fun _ => rfl) rfl q4 q5 rfl rfl (h.spec t (w23 q2 q3 h28 h29 h30 h32))
      rw [show H.del i = ⟨(i, none) :: H.l, H.x⟩ from rfl]
      simpa [SV.ren, SV.renC, SV.renB, SV.renA, rn, lk] using this
    · cases hc
  · cases hc
theorem intsOf_spec {k : IntKind} : ∀ {l : List SV} {ys : List Int}, intsOf k l = some ys → l = ys.map fun y => .v (.int k y)
  | [], ys, h => by cases h; rfl
  | c :: l, ys, h => by
    cases c with
    | v x =>
      cases x with
      | int k' x =>
        simp only [intsOf] at h
        split at h
        · rename_i e2; subst e2
          rw [Option.map_eq_some_iff] at h
          obtain ⟨zs, hz, rfl⟩ := h
          rw [intsOf_spec hz]; rfl
        · cases h
      | _ => simp [intsOf] at h
    | _ => simp [intsOf] at h
theorem restOf_spec {l : List SV} {t : Value × Nat × Nat × Nat × Nat × Value} (h : restOf l = some t) : l = [.v t.1, .sl t.2.1 t.2.2.1 t.2.2.2.1 t.2.2.2.2.1, .v t.2.2.2.2.2] := by
  unfold restOf at h
  split at h
  · cases h; rfl
  · cases h
theorem svm_get {vs : List Int} {r : List SV} {i : Nat} {K : SV → Prop} (hv : vs.length = 8) (hi : i < 8) (hk : K (.v (.int .u32 (vs.getD i 0)))) : (svm vs r).get i K := by
  unfold svm
  rw [get_sv, List.getElem?_append_left (by simp; omega), List.getElem?_map, List.getElem?_eq_getElem (by omega)]
  rw [List.getD_eq_getElem?_getD, List.getElem?_eq_getElem (by omega)] at hk
  exact hk
theorem svm_set {vs : List Int} {r : List SV} {i : Nat} {y : Int} {K : Body → Prop} (hv : vs.length = 8) (hi : i < 8) (hk : K (svm (vs.set i y) r)) : (svm vs r).set i (.v (.int .u32 y)) K := by
  unfold svm at hk ⊢
  rw [set_sv]
  refine ⟨rfl, by simp; omega, ?_⟩
  rw [List.set_append_left _ _ (by simp; omega), ← List.map_set]
  exact hk
theorem k30 (h : OKT P C) (t : trFn P 103 = some m30) (h36 : C 112 = det c36) : OKT P (C.add 103 (det c30)) := h.add t fun args H n v H' n' hc => by
  unfold c30 at hc
  split at hc
  case h_2 => cases hc
  rename_i i j p o
  unfold f30 at hc
  simp only [Option.bind_eq_some_iff] at hc
  obtain ⟨⟨wr, b⟩, hg1, ⟨wr2, b2⟩, hg2, ⟨wr3, b3⟩, hg3, ⟨vs, mk⟩, hw, ks, hks, ys, hys, hc⟩ := hc
  split at hc
  case isFalse => cases hc
  rename_i hcond
  obtain ⟨q1, q2, q3, q4, q5, q6, q7, q8, q9, q10⟩ := hcond
  simp only at q1 q2 hw hks hys; subst q1
  have e2 := intsB_some hks; subst e2
  have e3 := intsB_some hys; subst e3
  cases hc
  cases b with
  | ints k vs' =>
    have hk : k = .u32 ∧ vs' = vs ∧ mk = fun vs => .ints .u32 vs := by
      unfold wordsOf at hw
      split at hw
      · rename_i heq; cases heq; cases hw; exact ⟨rfl, rfl, rfl⟩
      · rename_i heq; cases heq
      · cases hw
    obtain ⟨rfl, rfl, rfl⟩ := hk
    have S := h.spec t (w30 (mk := fun vs => .ints .u32 vs) (x := H.x) h36 (fun vs i K hv hi hk => ⟨by omega, hk⟩) (fun vs i y K hv hi hk => ⟨rfl, by omega, hk⟩) (fun _ _ => rfl) (fun _ => rfl) q2 q3 q4)
    have := lift (n := n) S [(1, i), (2, j), (3, p)] rfl rfl rfl (by omega) rfl rfl ⟨?_, ?_, ?_, trivial⟩ (by simp [apartB, apart1, rn, lk]; omega) (by simp [wrNZ, rn, lk]; omega) (by omega)
    · exact this
    · unfold objSub
      rw [show rn [(1, i), (2, j), (3, p)] 1 = i from rfl, if_neg (by omega), hg1]
      exact ⟨fun _ => q6, fun _ => rfl, rfl⟩
    · unfold objSub
      rw [show rn [(1, i), (2, j), (3, p)] 2 = j from rfl, if_neg (by omega), hg2]
      exact ⟨fun h => (by cases h), fun h => (by cases h), rfl⟩
    · unfold objSub
      rw [show rn [(1, i), (2, j), (3, p)] 3 = p from rfl, if_neg (by omega), hg3]
      exact ⟨fun h => (by cases h), fun h => (by cases h), rfl⟩
  | sv cs =>
    unfold wordsOf at hw
    simp only [Option.bind_eq_some_iff, Option.map_eq_some_iff] at hw
    obtain ⟨vs', hvs, tt, htt, hw⟩ := hw
    cases hw
    have e1 := intsOf_spec hvs
    have e4 := restOf_spec htt
    obtain ⟨bb, r, q, m, z, l⟩ := tt
    simp only at e4
    have hcs : cs = vs.map (fun y => .v (.int .u32 y)) ++ [.v bb, .sl r q m z, .v l] := by
      rw [← e1, ← e4, List.take_append_drop]
    have S := h.spec t (w30d (mk := fun vs => svm vs [.v bb, .sl 4 q m z, .v l]) (x := H.x) h36 (fun vs i K hv hi hk => svm_get hv hi hk) (fun vs i y K hv hi hk => svm_set hv hi hk) (fun vs n => by simp [svm, Body.lt, ltB, ltA, idOK, Function.comp_def]) (fun _ => Body.ren_nil _) q2 q3 q4)
    intro F w0 w ρ xs hH hz hl
    have hren : ∀ us : List Int, (svm us [.v bb, .sl 4 q m z, .v l]).ren [(1, i), (2, j), (3, p), (4, r)] = svm us (cs.drop 8) := fun us => by
      rw [e4]; simp [svm, Body.ren, SV.renB, SV.renA, rn, lk, Function.comp_def]
    have hr : idOK n r = true := by
      have := (hH.lt i _ hg1).2
      rw [hcs] at this
      simp [Body.lt, ltB, ltA] at this
      exact this
    have := liftD (n := n) S [(1, i), (2, j), (3, p), (4, r)] (by simp [canon, wrAt, lk]) (fun k hk0 hk => ?_) rfl (by omega) (by simp [wfHp, svm, Body.lt, ltB, ltA, idOK, Function.comp_def]) rfl ⟨?_, ?_, ?_, trivial⟩ (by simp [apartB, apart1, rn, lk]; omega) (by simp [wrNZ, rn, lk]; omega) (by omega)
    · have := this F w0 w ρ xs hH hz hl
      simp only [Nat.sub_self, newIds, updOf, wrAt, lk, Option.map, SO.ren, hren] at this
      exact this
    · have : k = 1 ∨ k = 2 ∨ k = 3 ∨ k = 4 := by omega
      rcases this with e | e | e | e <;> subst e
      · exact .inl rfl
      · exact .inl rfl
      · exact .inl rfl
      · exact .inr hr
    · unfold objSub
      rw [show rn [(1, i), (2, j), (3, p), (4, r)] 1 = i from rfl, if_neg (by omega), hg1]
      refine ⟨fun _ => q6, fun _ => rfl, ?_⟩
      rw [hren]; unfold svm; rw [e4]; exact congrArg Body.sv hcs
    · unfold objSub
      rw [show rn [(1, i), (2, j), (3, p), (4, r)] 2 = j from rfl, if_neg (by omega), hg2]
      exact ⟨fun h => (by cases h), fun h => (by cases h), rfl⟩
    · unfold objSub
      rw [show rn [(1, i), (2, j), (3, p), (4, r)] 3 = p from rfl, if_neg (by omega), hg3]
      exact ⟨fun h => (by cases h), fun h => (by cases h), rfl⟩
  | strs => cases hw
  | pl => cases hw
  | mp => cases hw
end
end Go.Sx