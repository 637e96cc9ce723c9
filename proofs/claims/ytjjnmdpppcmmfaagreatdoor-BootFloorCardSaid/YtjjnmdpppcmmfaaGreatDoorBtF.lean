/- A device, at this program. -/
import Derived.Test.YtjjnmdpppcmmfaaGreatDoorBtE

set_option linter.unusedVariables false
set_option linter.unusedSimpArgs false
set_option maxRecDepth 100000
namespace Go.Sx
attribute [local go_sem ↓] bind_mk intsB_mk strsB_mk svB_mk fnVC ob_some vc_skip vc_exit vc_ret vc_seq vc_block kSeq_normal kSeq_exit kSeq_ret kBlock_normal kBlock_exit kBlock_ret vc_reg vc_regD vc_cond condK_true condK_false vc_loop kLoop_exit kLoop_ret kRoll_normal kRoll_exit kRoll_ret vcOps_nil vcOps_cons gd_bool gd_undef put_some put_none vcT_fin vcT_pure vcT_act vcT_acts vcT_stop stab_none stab_some stabM_nil stabM_cons stabO_ld stabO_ldn stabO_slP stabO_b2s fldOf_ai fldOf_agg fldOf_ait fldOf_aggt intsOf_nil intsOf_cons strsOf_nil strsOf_cons c_omap ob_if lk_nil lk_cons ev_t ev_k z_mov z_pick z_bin z_binA z_binB z_binP z_un z_r2s z_conv z_s2b z_b2s z_mkM z_luM z_upM z_lenM lenMk_mp lenMk_nil plsOf_v z_delM asM_so plV_v plV_agg mpOf_mp mpOf_nil mpUp_mp asM_mp luV_ok luV_v z_allocT aggOf_mk z_boxT z_alloc z_bld z_bldI z_rowI z_rowS z_ld z_ldn z_st z_stn asN_ptr asN_fn z_nilck z_fld z_fadr z_idxA z_idxP z_idxS z_idxV z_slS z_slL z_slP z_mk z_lenS z_lenL z_app appC_ints appC_pl appC_sv appC_strs isS_strs loose_ints loose_pl loose_sv z_slM z_callv callvK_fn callvK_f callvK_yl vc_rangeF rfEnd_eq rfGo_none rfGo_ret rfGo_exit yGo_mk yEnd_n yEnd_r yEnd_e yRdy_mk yMid_n putPs_nil putPs_cons leaf_v leaf_ptr leaf_sl leaf_yl leaf_mp z_appS z_appST z_appZ z_cpyS z_mkfn reps_int reps_str z_rowV z_slnil nilK_zero z_cpy z_call asT_tup z_extT z_box boxOf_ai boxOf_agg boxOf_int boxOf_str boxOf_bool boxOf_ptr boxOf_sl sbin_int sbin_str sbinA_mk ae_nil ae_int ae_str sbinB_mk sbinP_nn sbinP_pn sbinP_np i_add i_sub i_mul i_quo i_rem i_and i_or i_xor i_andNot i_shl i_shr i_eql i_neq i_lss i_leq i_gtr i_geq st_add st_eql st_neq st_lss st_leq st_gtr st_geq bo_eql bo_neq pt_eql pt_neq un_neg un_xor un_not asI_mk asB_mk asS_mk asP_mk asSl_mk asBy_mk bnd_none bnd_some get_mk hput_mk hdel_mk kill_eq wrOf_eq rowOf_eq rsvs_0 rsvs_1 rsvs_2 rsvs_3 rsv_t rsv_c1 rsv_cn nt_v nt_ptr nt_sl nt_agg nt_ai get_ints get_strs get_pl get_sv getN_ints getN_sv set_ints set_strs set_sv setN_ints setN_sv part_ints part_strs part_sv cat_ints cat_strs cat_sv over_ints over_strs over_sv ones_ints ones_strs evs_nil evs_cons condK_eqt condK_eqf det_callP V_ns V_nn V_gs V_gn obC_mk fresh_ev freshT_ev freshR_ev setN_plagg setN_intsv setN_svai setN_svagg over_intsv set_pl setN_pl setN_plai getN_pl getN_strs part_pl cat_pl over_pl over_plints z_mm
attribute [local go_sem] initTm ne_eq not_true_eq_false not_false_eq_true true_and and_true List.length_cons List.length_nil Int.toNat_natCast Nat.add_zero Nat.zero_add Nat.mul_one List.getElem?_cons_zero List.drop_zero List.take_length List.take_succ_cons List.take_zero List.take_nil List.drop_succ_cons Option.map_some Nat.le_refl implies_true List.getElem?_cons_succ decide_true decide_false Bool.not_true Bool.not_false beq_self_eq_true Nat.succ_ne_self Nat.one_ne_zero Nat.zero_ne_one vk_mk hk_mk nk_mk tok_eq plsOf_map intsOf_map bodyOf_pl bodyOf_ints bodyOf_strs bodyOf_sv part_aggv part_agg part_ai part_int part_str part_bool part_sl part_ptr part_nil numsOf_map u_int u_str u_bool u_pnil u_sl u_ptr u_oci u_ocs evq_nil evq_cons fillS_nil fillS_cons u_ocb ones_pl cells_sv cells_ints cells_strs cells_pl smms_nil smms_cons smm_min smm_max plsOf_nil List.nil_append List.all_cons List.all_nil Bool.and_self Bool.true_and Bool.and_true zws_len zw_len zi_len List.set_cons_zero List.set_cons_succ List.flatMap_cons List.flatMap_nil List.append_nil
attribute [local go_sem_proc] Nat.reduceEqDiff Nat.reduceAdd Nat.reduceMul Nat.reduceLT Nat.reduceLeDiff Nat.reduceSub Int.reduceToNat Int.reduceLE Int.reduceLT reduceCtorEq Int.reduceEq Int.reduceGT Int.reduceGE Int.reduceNeg
attribute [local go_sem_proc ↓] reduceIte
section
open Go.Proofs
variable {P : Program} {C : Tab} {H : Hp} {n : Nat} {x : Nat → Option SO}
theorem flat_len {α : Type} {z : Nat} : ∀ {l : List (List α)}, (∀ s ∈ l, s.length = z) → l.flatten.length = l.length * z
  | [], _ => by simp
  | s :: l, h => by
    rw [List.flatten_cons, List.length_append, h s (List.mem_cons_self ..), flat_len (l := l) (fun t ht => h t (List.mem_cons_of_mem _ ht)), List.length_cons, Nat.succ_mul, Nat.add_comm]
theorem flat_drop {α : Type} {z : Nat} : ∀ {l : List (List α)} (j : Nat), (∀ s ∈ l, s.length = z) → l.flatten.drop (j * z) = (l.drop j).flatten
  | [], j, _ => by simp
  | s :: l, 0, h => by simp
  | s :: l, j + 1, h => by
    rw [List.flatten_cons, show (j + 1) * z = s.length + j * z by rw [h s (List.mem_cons_self ..), Nat.succ_mul, Nat.add_comm], ← List.drop_drop, List.drop_left, List.drop_succ_cons]
    exact flat_drop j (fun t ht => h t (List.mem_cons_of_mem _ ht))
theorem flat_take {α : Type} {z : Nat} {l : List (List α)} {j : Nat} (h : ∀ s ∈ l, s.length = z) (hj : j < l.length) : (l.flatten.drop (j * z)).take z = l.getD j [] := by
  rw [flat_drop j h, List.drop_eq_getElem_cons hj, List.flatten_cons, List.take_append_of_le_length (by rw [h _ (List.getElem_mem hj)]; exact Nat.le_refl _), List.take_of_length_le (by rw [h _ (List.getElem_mem hj)]; exact Nat.le_refl _), List.getD_eq_getElem?_getD, List.getElem?_eq_getElem hj]; rfl
theorem flat_firsts {α : Type} {z : Nat} {l : List (List α)} {j : Nat} (h : ∀ s ∈ l, s.length = z) (hj : j ≤ l.length) : l.flatten.take (j * z) = (l.take j).flatten := by
  have e : l.flatten = (l.take j).flatten ++ (l.drop j).flatten := by rw [← List.flatten_append, List.take_append_drop]
  have hlen : (l.take j).flatten.length = j * z := by
    rw [flat_len (fun s hs => h s (List.mem_of_mem_take hs)), List.length_take, Nat.min_eq_left hj]
  rw [e, List.take_append_of_le_length (by omega), List.take_of_length_le (by omega)]
theorem flat_set {α : Type} {z : Nat} {l : List (List α)} {j : Nat} {s : List α} (h : ∀ s ∈ l, s.length = z) (hj : j < l.length) (hs : s.length = z) : splice l.flatten (j * z) s = (l.set j s).flatten := by
  unfold splice
  rw [flat_firsts h (by omega), hs, show j * z + z = (j + 1) * z by rw [Nat.succ_mul], flat_drop (j + 1) h, List.set_eq_take_append_cons_drop, if_pos hj, List.flatten_append, List.flatten_cons, List.append_assoc]
theorem set_all {α : Type} {z : Nat} {l : List (List α)} {j : Nat} {s : List α} (h : ∀ s ∈ l, s.length = z) (hs : s.length = z) : ∀ t ∈ l.set j s, t.length = z := by
  intro t ht
  rcases List.mem_or_eq_of_mem_set ht with h1 | h1
  · exact h t h1
  · rw [h1]; exact hs
theorem getD_len {α : Type} {z : Nat} {l : List (List α)} {j : Nat} (h : ∀ s ∈ l, s.length = z) (hj : j < l.length) : (l.getD j []).length = z := by
  rw [List.getD_eq_getElem?_getD, List.getElem?_eq_getElem hj]; exact h _ (List.getElem_mem hj)
def pad64 (ys : List Int) : List Int := ys ++ List.replicate (64 - ys.length) 0
theorem pad64_len {ys : List Int} (h : ys.length ≤ 64) : (pad64 ys).length = 64 := by simp [pad64]; omega
structure Fd where
  seen : List (List Int)
  safe : List (List Int)
  pend : List (Nat × List Int)
  st : Int
  fa : Int
  off : Bool
structure Fd.ok (d : Fd) : Prop where
  seen : ∀ s ∈ d.seen, s.length = 64
  safe : ∀ s ∈ d.safe, s.length = 64
  len : d.safe.length = d.seen.length
  most : d.seen.length ≤ 4096
  pend : ∀ w ∈ d.pend, w.1 < d.seen.length ∧ w.2.length = 64
  few : d.pend.length ≤ 1000000000
  st0 : 0 ≤ d.st
  st1 : d.st ≤ 1000000000000
  fa0 : 0 ≤ d.fa
  fa1 : d.fa ≤ 9223372036854775807
def wcell (w : Nat × List Int) : List Value := .int .i64 w.1 :: w.2.map (Value.int .u8)
def prow (ws : List (Nat × List Int)) : List Value := (ws.map wcell).flatten
def devB (d : Fd) (a b c : Nat) : Body := .sv [.sl a 0 d.seen.length 64, .sl b 0 d.seen.length 64, .sl c 0 d.pend.length 65, .v (.int .i64 d.st), .v (.int .i64 d.fa), .v (.bool d.off)]
def secB (l : List (List Int)) : Body := .ints .u8 l.flatten
theorem wcell_len {w : Nat × List Int} (h : w.2.length = 64) : (wcell w).length = 65 := by simp [wcell, h]
theorem prow_len {ws : List (Nat × List Int)} (h : ∀ w ∈ ws, w.2.length = 64) : (prow ws).length = ws.length * 65 := by
  unfold prow
  rw [flat_len (z := 65), List.length_map]
  intro s hs
  rw [List.mem_map] at hs
  obtain ⟨w, hw, rfl⟩ := hs
  exact wcell_len (h w hw)
theorem prow_at {ws : List (Nat × List Int)} {j : Nat} (h : ∀ w ∈ ws, w.2.length = 64) (hj : j < ws.length) : ((prow ws).drop (j * 65)).take 65 = wcell (ws.getD j (0, [])) := by
  unfold prow
  rw [flat_take (fun s hs => by
    rw [List.mem_map] at hs
    obtain ⟨w, hw, rfl⟩ := hs
    exact wcell_len (h w hw)) (by simpa using hj)]
  rw [List.getD_eq_getElem?_getD, List.getElem?_map, List.getD_eq_getElem?_getD, List.getElem?_eq_getElem hj]; rfl
theorem prow_app (l m : List (Nat × List Int)) : prow (l ++ m) = prow l ++ prow m := by simp [prow]
theorem ones_wcell (w : Nat × List Int) : (wcell w).all (·.oneCell') = true := by
  simp [wcell, Value.oneCell']
def stepD (d : Fd) : Fd := if d.fa = 1 then { d with fa := 0, off := true } else { d with fa := if 0 < d.fa then d.fa - 1 else d.fa, st := d.st + 1 }
variable {H : Hp} {n : Nat} {x : Nat → Option SO}
abbrev C3 : Tab := CS Tryz.prog
theorem mix3 : Tryz.prog.follows .mixedOrders = true := Checked.mixed Tryz.checked
def hp3 (d : Fd) (x : Nat → Option SO) : Hp := ⟨[(1, some ⟨true, devB d 2 3 4⟩), (2, some ⟨true, secB d.seen⟩), (3, some ⟨true, secB d.safe⟩), (4, some ⟨true, .pl (prow d.pend)⟩)], x⟩
theorem pls_new {k : Nat} : plsOf (splice zws 0 [.v (.int .i64 (k : Int))]) = some (wcell (k, zi 64)) := rfl
theorem new_wr {k : Nat} : splice zw 0 (wcell (k, zi 64)) = wcell (k, zi 64) := rfl
theorem wz_len {k : Nat} : (wcell (k, zi 64)).length = 65 := rfl
theorem wr_copy {k : Nat} {s : ByteArray} (hs : s.size ≤ 64) : splice (wcell (k, zi 64)) 1 (((bts s).take (min s.size 64)).map (Value.int .u8)) = wcell (k, pad64 (bts s)) := by
  have hl := bts_length s
  rw [List.take_of_length_le (by omega)]
  unfold wcell
  rw [splice_succ, splice_zero]
  simp only [zi, pad64, List.length_map, hl, ← List.map_drop, List.drop_replicate, List.map_append]
theorem wcell_tl {w : Nat × List Int} : (wcell w).drop 1 = w.2.map (Value.int .u8) := rfl
theorem wF11 {d : Fd} {k : Nat} {s : ByteArray} (hd : d.ok) (hk : k < d.seen.length) (hs : s.size ≤ 64) (hoff : d.off = false) (hfa : d.fa ≠ 1) :
    fnVC C3 mFWrite [.ptr 1 0, .v (.int .i64 k), .v (.string s)] (hp3 d x) 5 fun v H' n' => Sub 5 ⟨[(0, .v (.int .i64 0))],
      ⟨[(1, some ⟨true, devB { stepD d with seen := d.seen.set k (pad64 (bts s)), pend := d.pend ++ [(k, pad64 (bts s))] } 2 3 5⟩), (2, some ⟨true, secB (d.seen.set k (pad64 (bts s)))⟩), (3, some ⟨true, secB d.safe⟩), (4, none), (5, some ⟨true, .pl (prow (d.pend ++ [(k, pad64 (bts s))]))⟩)], x⟩, 6⟩ ⟨[(0, v)], H', n'⟩ := by
  obtain ⟨h1, h2, h3, h4, h5, h6, h7, h8, h9, h10⟩ := hd
  have e1 : decide ((k : Int) < 0) = false := decide_eq_false (by omega)
  have e2 : decide ((k : Int) ≥ (d.seen.length : Int)) = false := decide_eq_false (by omega)
  have e3 : decide ((s.size : Int) > 64) = false := decide_eq_false (by omega)
  have hl := bts_length s
  have hp := pad64_len (ys := bts s) (by omega)
  have r1 := wr_copy (k := k) hs
  have r2 : (wcell (k, pad64 (bts s))).length = 65 := wcell_len hp
  have r3 : List.take 65 (wcell (k, pad64 (bts s))) = wcell (k, pad64 (bts s)) := List.take_of_length_le (by omega)
  have r4 := prow_len (ws := d.pend) (fun w hw => (h5 w hw).2)
  have r5 : List.take (d.pend.length * 65) (prow d.pend) = prow d.pend := List.take_of_length_le (by omega)
  have r6 : List.take 64 ((pad64 (bts s)).map (Value.int .u8)) = (pad64 (bts s)).map (Value.int .u8) := List.take_of_length_le (by simp; omega)
  have r7 := flat_set (s := pad64 (bts s)) h1 hk hp
  have r8 : ∀ w, prow [w] = wcell w := fun w => by simp [prow]
  have r9 := flat_len h1
  unfold hp3 devB secB mFWrite
  rw [hoff]
  simp -implicitDefEqProofs only [↓fnVC, initTm]
  simp -implicitDefEqProofs only [go_sem]
  refine in_call mix3 tFat ?_
  unfold mFat
  simp -implicitDefEqProofs only [↓fnVC, initTm]
  simp -implicitDefEqProofs only [go_sem, e1]
  refine in_call mix3 tFSectors ?_
  unfold mFSectors
  simp -implicitDefEqProofs only [↓fnVC, initTm]
  simp -implicitDefEqProofs only [go_sem, e1, e2, e3]
  refine in_call mix3 tFstep ?_
  unfold mFstep
  simp -implicitDefEqProofs only [↓fnVC, initTm]
  simp -implicitDefEqProofs only [go_sem]
  refine condK_bb (fun e4 => ?_) (fun e4 => ?_)
  · simp -implicitDefEqProofs only [go_sem, e4]
    have e5 : decide (IntKind.i64.wrap (d.fa - 1) = 0) = false := decide_eq_false (by rw [wrap_i64 (by omega) (by omega)]; omega)
    have q1 : (stepD d).st = IntKind.i64.wrap (d.st + 1) := by rw [wrap_i64 (by omega) (by omega)]; simp [stepD, hfa]
    have q2 : (stepD d).fa = IntKind.i64.wrap (d.fa - 1) := by rw [wrap_i64 (by omega) (by omega)]; simp only [decide_eq_true_eq] at e4; simp [stepD, hfa]; intro; omega
    have q3 : (stepD d).off = false := by simp [stepD, hfa, hoff]
    simp -implicitDefEqProofs only [go_sem, e5, pls_new, new_wr, wz_len, ones_wcell, r1, r2, r3, r4, r5, r6, r7, wcell_tl, List.length_map, hp]
    refine ⟨by omega, by rw [List.length_take]; omega, by omega, by omega, by omega, by omega, sub_mk [(5, 7)] rfl rfl rfl ?_⟩
    simp only [tmSub, hpSub, objSub, eqTm, eqHp, rn, lk, SV.ren, SV.renC, SV.renB, SV.renA, ren_ints, ren_strs, ren_pl, ren_svs, SV.v.injEq, Value.int.injEq, Body.ints.injEq, SV.ptr.injEq, SV.sl.injEq, Value.string.injEq, Value.bool.injEq, List.map_cons, List.map_nil, forall_const, Nat.reduceLT, Nat.lt_add_one, imp_self, true_and, and_true, and_self, ob_some, get_mk, lk_cons, ↓reduceIte, Nat.reduceEqDiff, ne_eq, not_true_eq_false, not_false_eq_true, Nat.one_ne_zero, Nat.zero_ne_one, Nat.succ_ne_self, Nat.reduceAdd, Bool.false_eq_true, false_implies, implies_true, reduceCtorEq, q1, q2, q3, List.length_set, List.length_append, List.length_cons, List.length_nil, prow_app, r8]
  · simp -implicitDefEqProofs only [go_sem, e4, pls_new, new_wr, wz_len, ones_wcell, r1, r2, r3, r4, r5, r6, r7, wcell_tl, List.length_map, hp]
    have q1 : (stepD d).st = IntKind.i64.wrap (d.st + 1) := by rw [wrap_i64 (by omega) (by omega)]; simp [stepD, hfa]
    have q2 : (stepD d).fa = d.fa := by simp only [decide_eq_false_iff_not] at e4; simp [stepD, hfa]; intro; omega
    have q3 : (stepD d).off = false := by simp [stepD, hfa, hoff]
    refine ⟨by omega, by rw [List.length_take]; omega, by omega, by omega, by omega, by omega, sub_mk [(5, 7)] rfl rfl rfl ?_⟩
    simp only [tmSub, hpSub, objSub, eqTm, eqHp, rn, lk, SV.ren, SV.renC, SV.renB, SV.renA, ren_ints, ren_strs, ren_pl, ren_svs, SV.v.injEq, Value.int.injEq, Body.ints.injEq, SV.ptr.injEq, SV.sl.injEq, Value.string.injEq, Value.bool.injEq, List.map_cons, List.map_nil, forall_const, Nat.reduceLT, Nat.lt_add_one, imp_self, true_and, and_true, and_self, ob_some, get_mk, lk_cons, ↓reduceIte, Nat.reduceEqDiff, ne_eq, not_true_eq_false, not_false_eq_true, Nat.one_ne_zero, Nat.zero_ne_one, Nat.succ_ne_self, Nat.reduceAdd, Bool.false_eq_true, false_implies, implies_true, reduceCtorEq, q1, q2, q3, List.length_set, List.length_append, List.length_cons, List.length_nil, prow_app, r8]
def hp3r (d : Fd) (x : Nat → Option SO) : Hp := ⟨[(1, some ⟨true, devB d 2 3 4⟩), (2, some ⟨false, secB d.seen⟩), (3, some ⟨false, secB d.safe⟩), (4, some ⟨false, .pl (prow d.pend)⟩)], x⟩
def wrNo (d : Fd) (k : Int) (s : ByteArray) : Option (Int × Fd) :=
  if d.off then some (7, d) else if k < 0 ∨ (d.seen.length : Int) ≤ k then some (1, d) else if 64 < s.size then some (1, d) else if d.fa = 1 then some (7, stepD d) else none
theorem wF11n {d d' : Fd} {k e : Int} {s : ByteArray} (hd : d.ok) (hn : wrNo d k s = some (e, d')) :
    fnVC C3 mFWrite [.ptr 1 0, .v (.int .i64 k), .v (.string s)] (hp3r d x) 5 fun v H' n' => Sub 5 ⟨[(0, .v (.int .i64 e))], hp3r d' x, 5⟩ ⟨[(0, v)], H', n'⟩ := by
  obtain ⟨h1, h2, h3, h4, h5, h6, h7, h8, h9, h10⟩ := hd
  unfold wrNo at hn
  unfold hp3r devB secB mFWrite
  simp -implicitDefEqProofs only [↓fnVC, initTm]
  simp -implicitDefEqProofs only [go_sem]
  refine in_call mix3 tFat ?_
  unfold mFat
  simp -implicitDefEqProofs only [↓fnVC, initTm]
  cases hoff : d.off with
  | true =>
    rw [hoff, if_pos rfl] at hn
    cases hn
    simp -implicitDefEqProofs only [go_sem, hoff]
    refine sub_mk [] rfl rfl rfl ?_
    simp only [tmSub, hpSub, objSub, eqTm, eqHp, rn, lk, SV.ren, SV.renC, SV.renB, SV.renA, ren_ints, ren_strs, ren_pl, ren_svs, SV.v.injEq, Value.int.injEq, Body.ints.injEq, SV.ptr.injEq, SV.sl.injEq, Value.string.injEq, Value.bool.injEq, List.map_cons, List.map_nil, forall_const, Nat.reduceLT, Nat.lt_add_one, imp_self, true_and, and_true, and_self, ob_some, get_mk, lk_cons, ↓reduceIte, Nat.reduceEqDiff, ne_eq, not_true_eq_false, not_false_eq_true, Nat.one_ne_zero, Nat.zero_ne_one, Nat.succ_ne_self, Nat.reduceAdd, Bool.false_eq_true, false_implies, implies_true, reduceCtorEq, hoff]
  | false =>
    rw [hoff, if_neg (by simp)] at hn
    simp -implicitDefEqProofs only [go_sem, hoff]
    by_cases c1 : k < 0
    · rw [if_pos (.inl c1)] at hn
      cases hn
      have e1 : decide (k < 0) = true := decide_eq_true c1
      simp -implicitDefEqProofs only [go_sem, e1]
      refine sub_mk [] rfl rfl rfl ?_
      simp only [tmSub, hpSub, objSub, eqTm, eqHp, rn, lk, SV.ren, SV.renC, SV.renB, SV.renA, ren_ints, ren_strs, ren_pl, ren_svs, SV.v.injEq, Value.int.injEq, Body.ints.injEq, SV.ptr.injEq, SV.sl.injEq, Value.string.injEq, Value.bool.injEq, List.map_cons, List.map_nil, forall_const, Nat.reduceLT, Nat.lt_add_one, imp_self, true_and, and_true, and_self, ob_some, get_mk, lk_cons, ↓reduceIte, Nat.reduceEqDiff, ne_eq, not_true_eq_false, not_false_eq_true, Nat.one_ne_zero, Nat.zero_ne_one, Nat.succ_ne_self, Nat.reduceAdd, Bool.false_eq_true, false_implies, implies_true, reduceCtorEq, hoff]
    have e1 : decide (k < 0) = false := decide_eq_false c1
    simp -implicitDefEqProofs only [go_sem, e1]
    refine in_call mix3 tFSectors ?_
    unfold mFSectors
    simp -implicitDefEqProofs only [↓fnVC, initTm]
    by_cases c2 : (d.seen.length : Int) ≤ k
    · rw [if_pos (.inr c2)] at hn
      cases hn
      have e2 : decide (k ≥ (d.seen.length : Int)) = true := decide_eq_true c2
      simp -implicitDefEqProofs only [go_sem, e1, e2]
      refine sub_mk [] rfl rfl rfl ?_
      simp only [tmSub, hpSub, objSub, eqTm, eqHp, rn, lk, SV.ren, SV.renC, SV.renB, SV.renA, ren_ints, ren_strs, ren_pl, ren_svs, SV.v.injEq, Value.int.injEq, Body.ints.injEq, SV.ptr.injEq, SV.sl.injEq, Value.string.injEq, Value.bool.injEq, List.map_cons, List.map_nil, forall_const, Nat.reduceLT, Nat.lt_add_one, imp_self, true_and, and_true, and_self, ob_some, get_mk, lk_cons, ↓reduceIte, Nat.reduceEqDiff, ne_eq, not_true_eq_false, not_false_eq_true, Nat.one_ne_zero, Nat.zero_ne_one, Nat.succ_ne_self, Nat.reduceAdd, Bool.false_eq_true, false_implies, implies_true, reduceCtorEq, hoff]
    rw [if_neg (fun h => h.elim c1 c2)] at hn
    have e2 : decide (k ≥ (d.seen.length : Int)) = false := decide_eq_false c2
    simp -implicitDefEqProofs only [go_sem, e1, e2]
    by_cases c3 : 64 < s.size
    · rw [if_pos c3] at hn
      cases hn
      have e3 : decide ((s.size : Int) > 64) = true := decide_eq_true (by omega)
      simp -implicitDefEqProofs only [go_sem, e3]
      refine sub_mk [] rfl rfl rfl ?_
      simp only [tmSub, hpSub, objSub, eqTm, eqHp, rn, lk, SV.ren, SV.renC, SV.renB, SV.renA, ren_ints, ren_strs, ren_pl, ren_svs, SV.v.injEq, Value.int.injEq, Body.ints.injEq, SV.ptr.injEq, SV.sl.injEq, Value.string.injEq, Value.bool.injEq, List.map_cons, List.map_nil, forall_const, Nat.reduceLT, Nat.lt_add_one, imp_self, true_and, and_true, and_self, ob_some, get_mk, lk_cons, ↓reduceIte, Nat.reduceEqDiff, ne_eq, not_true_eq_false, not_false_eq_true, Nat.one_ne_zero, Nat.zero_ne_one, Nat.succ_ne_self, Nat.reduceAdd, Bool.false_eq_true, false_implies, implies_true, reduceCtorEq, hoff]
    rw [if_neg c3] at hn
    have e3 : decide ((s.size : Int) > 64) = false := decide_eq_false (by omega)
    simp -implicitDefEqProofs only [go_sem, e3]
    split at hn
    · rename_i c4
      cases hn
      refine in_call mix3 tFstep ?_
      unfold mFstep
      simp -implicitDefEqProofs only [↓fnVC, initTm]
      have e4 : decide ((1 : Int) > 0) = true := rfl
      have e5 : decide (IntKind.i64.wrap (1 - 1) = 0) = true := rfl
      have q1 : (stepD d).st = d.st := by simp [stepD, c4]
      have q2 : (stepD d).fa = IntKind.i64.wrap (1 - 1) := by simp [stepD, c4]; rfl
      have q3 : (stepD d).off = true := by simp [stepD, c4]
      have q4 : (stepD d).seen = d.seen := by simp [stepD, c4]
      have q5 : (stepD d).safe = d.safe := by simp [stepD, c4]
      have q6 : (stepD d).pend = d.pend := by simp [stepD, c4]
      simp -implicitDefEqProofs only [go_sem, c4, e4, e5]
      refine sub_mk [] rfl rfl rfl ?_
      simp only [tmSub, hpSub, objSub, eqTm, eqHp, rn, lk, SV.ren, SV.renC, SV.renB, SV.renA, ren_ints, ren_strs, ren_pl, ren_svs, SV.v.injEq, Value.int.injEq, Body.ints.injEq, SV.ptr.injEq, SV.sl.injEq, Value.string.injEq, Value.bool.injEq, List.map_cons, List.map_nil, forall_const, Nat.reduceLT, Nat.lt_add_one, imp_self, true_and, and_true, and_self, ob_some, get_mk, lk_cons, ↓reduceIte, Nat.reduceEqDiff, ne_eq, not_true_eq_false, not_false_eq_true, Nat.one_ne_zero, Nat.zero_ne_one, Nat.succ_ne_self, Nat.reduceAdd, Bool.false_eq_true, false_implies, implies_true, reduceCtorEq, q1, q2, q3, q4, q5, q6]
    · cases hn
variable {H : Hp} {n : Nat} {x : Nat → Option SO}
def setl (S : List (List Int)) (ws : List (Nat × List Int)) : List (List Int) := ws.foldl (fun S w => S.set w.1 w.2) S
theorem setl_succ {S : List (List Int)} {ws : List (Nat × List Int)} {t : Nat} (h : t < ws.length) : setl S (ws.take (t + 1)) = (setl S (ws.take t)).set (ws.getD t (0, [])).1 (ws.getD t (0, [])).2 := by
  unfold setl
  rw [List.take_add_one, List.foldl_append, List.getElem?_eq_getElem h, List.getD_eq_getElem?_getD, List.getElem?_eq_getElem h]; rfl
theorem setl_len : ∀ {ws : List (Nat × List Int)} {S : List (List Int)}, (setl S ws).length = S.length
  | [], S => rfl
  | w :: ws, S => by
    show (setl (S.set w.1 w.2) ws).length = _
    rw [setl_len, List.length_set]
theorem setl_all : ∀ {ws : List (Nat × List Int)} {S : List (List Int)}, (∀ w ∈ ws, w.2.length = 64) → (∀ s ∈ S, s.length = 64) → ∀ s ∈ setl S ws, s.length = 64
  | [], S, _, h => h
  | w :: ws, S, hw, h => by
    show ∀ s ∈ setl (S.set w.1 w.2) ws, _
    exact setl_all (fun w' hw' => hw w' (List.mem_cons_of_mem _ hw')) (set_all h (hw w (List.mem_cons_self ..)))
def hp3b (d : Fd) (c : Nat) (ws : List (Nat × List Int)) (x : Nat → Option SO) : Hp := ⟨[(1, some ⟨true, devB d 2 3 c⟩), (2, some ⟨true, secB d.seen⟩), (3, some ⟨true, secB d.safe⟩), (4, some ⟨false, .pl (prow ws)⟩)], x⟩
theorem wcell_hd {w : Nat × List Int} : (wcell w)[0]? = some (.int .i64 w.1) := rfl
theorem zw_all {w : Nat × List Int} (h : w.2.length = 64) : splice zw 0 (wcell w) = wcell w := by
  rw [splice_zero, wcell_len h]
  have : zw.drop 65 = [] := rfl
  rw [this, List.append_nil]
theorem wF12 {d : Fd} (hd : d.ok) (hoff : d.off = false) (hfa : d.fa ≠ 1) :
    fnVC C3 mFBarrier [.ptr 1 0] (hp3b d 4 d.pend x) 5 fun v H' n' => Sub 5 ⟨[(0, .v (.int .i64 0))], ⟨[(1, some ⟨true, devB { stepD d with safe := setl d.safe d.pend, pend := [] } 2 3 5⟩), (2, some ⟨true, secB d.seen⟩), (3, some ⟨true, secB (setl d.safe d.pend)⟩), (4, some ⟨false, .pl (prow d.pend)⟩), (5, some ⟨true, .pl []⟩)], x⟩, 6⟩ ⟨[(0, v)], H', n'⟩ := by
  have hd' := hd
  obtain ⟨h1, h2, h3, h4, h5, h6, h7, h8, h9, h10⟩ := hd
  have q1 : (stepD d).st = IntKind.i64.wrap (d.st + 1) := by rw [wrap_i64 (by omega) (by omega)]; simp [stepD, hfa]
  have q3 : (stepD d).off = false := by simp [stepD, hfa, hoff]
  have q4 : (stepD d).seen = d.seen := by simp [stepD, hfa]
  have hrow := fun t (h : t < d.pend.length) => prow_at (j := t) (fun w hw => (h5 w hw).2) h
  have hplen := prow_len (ws := d.pend) (fun w hw => (h5 w hw).2)
  unfold hp3b devB secB mFBarrier
  simp -implicitDefEqProofs only [↓fnVC, initTm]
  simp -implicitDefEqProofs only [go_sem, hoff]
  refine in_call mix3 tFstep ?_
  unfold mFstep
  simp -implicitDefEqProofs only [↓fnVC, initTm]
  simp -implicitDefEqProofs only [go_sem]
  refine condK_bb (fun e4 => ?_) (fun e4 => ?_)
  · have e5 : decide (IntKind.i64.wrap (d.fa - 1) = 0) = false := decide_eq_false (by rw [wrap_i64 (by omega) (by omega)]; omega)
    have q2 : (stepD d).fa = IntKind.i64.wrap (d.fa - 1) := by rw [wrap_i64 (by omega) (by omega)]; simp only [decide_eq_true_eq] at e4; simp [stepD, hfa]; intro; omega
    simp -implicitDefEqProofs only [go_sem, e4, e5]
    refine loop_fam (fun t : Nat => t ≤ d.pend.length) (fun t => ⟨[(0, .ptr 1 0), (22, .sl 4 0 d.pend.length 65), (23, .v (.int .i64 d.pend.length)), (24, .v (.int .i64 t))],
      ⟨[(1, some ⟨true, .sv [.sl 2 0 d.seen.length 64, .sl 3 0 d.seen.length 64, .sl 4 0 d.pend.length 65, .v (.int .i64 (IntKind.i64.wrap (d.st + 1))), .v (.int .i64 (IntKind.i64.wrap (d.fa - 1))), .v (.bool false)]⟩), (2, some ⟨true, .ints .u8 d.seen.flatten⟩), (3, some ⟨true, .ints .u8 (setl d.safe (d.pend.take t)).flatten⟩), (4, some ⟨false, .pl (prow d.pend)⟩)], x⟩, 5⟩) (fun t => d.pend.length - t) 0 (by omega) ?_ ?_
    · refine sub0 rfl rfl ?_
      simp only [tmSub, hpSub, objSub, eqTm, eqHp, rn, lk, SV.ren, SV.renC, SV.renB, SV.renA, ren_ints, ren_strs, ren_pl, ren_svs, SV.v.injEq, Value.int.injEq, Body.ints.injEq, SV.ptr.injEq, SV.sl.injEq, Value.string.injEq, Value.bool.injEq, List.map_cons, List.map_nil, forall_const, Nat.reduceLT, Nat.lt_add_one, imp_self, true_and, and_true, and_self, ob_some, get_mk, lk_cons, ↓reduceIte, Nat.reduceEqDiff, ne_eq, not_true_eq_false, not_false_eq_true, Nat.one_ne_zero, Nat.zero_ne_one, Nat.succ_ne_self, Nat.reduceAdd, Bool.false_eq_true, false_implies, implies_true, reduceCtorEq, setl]
      exact ⟨rfl, rfl⟩
    · intro t ht
      simp -implicitDefEqProofs only [go_sem]
      refine condK_bb (fun e6 => ?_) (fun e6 => ?_)
      · have c6 : t < d.pend.length := by simp only [decide_eq_true_eq] at e6; omega
        have hw := h5 (d.pend.getD t (0, [])) (by rw [List.getD_eq_getElem?_getD, List.getElem?_eq_getElem c6]; exact List.getElem_mem c6)
        have p1 := hrow t c6
        have p4 := setl_succ (S := d.safe) c6
        generalize d.pend.getD t (0, []) = w at hw p1 p4
        have p2 := zw_all hw.2
        have p3 := wcell_len hw.2
        have p5 : List.take 64 (w.2.map (Value.int .u8)) = w.2.map (Value.int .u8) := List.take_of_length_le (by simp; omega)
        have p6 := setl_all (ws := d.pend.take t) (S := d.safe) (fun w hw => (h5 w (List.mem_of_mem_take hw)).2) h2
        have p7 : (setl d.safe (d.pend.take t)).length = d.seen.length := by rw [setl_len, h3]
        have p8 := flat_set (s := w.2) p6 (by rw [p7]; exact hw.1) hw.2
        have p9 := flat_len p6
        simp -implicitDefEqProofs only [go_sem, p1, p2, p3, p5, p8, wcell_hd, wcell_tl, ones_wcell, List.length_map, hw.2]
        refine ⟨by omega, by omega, by omega, by omega, kLoop_mk (t + 1) (by omega) (by omega) (sub0 rfl rfl ?_)⟩
        simp only [tmSub, hpSub, objSub, eqTm, eqHp, rn, lk, SV.ren, SV.renC, SV.renB, SV.renA, ren_ints, ren_strs, ren_pl, ren_svs, SV.v.injEq, Value.int.injEq, Body.ints.injEq, SV.ptr.injEq, SV.sl.injEq, Value.string.injEq, Value.bool.injEq, List.map_cons, List.map_nil, forall_const, Nat.reduceLT, Nat.lt_add_one, imp_self, true_and, and_true, and_self, ob_some, get_mk, lk_cons, ↓reduceIte, Nat.reduceEqDiff, ne_eq, not_true_eq_false, not_false_eq_true, Nat.one_ne_zero, Nat.zero_ne_one, Nat.succ_ne_self, Nat.reduceAdd, Bool.false_eq_true, false_implies, implies_true, reduceCtorEq, p4]
        rw [wrap_i64 (by omega) (by omega)]
        exact Int.natCast_add t 1
      · have c6 : d.pend.take t = d.pend := List.take_of_length_le (by simp only [decide_eq_false_iff_not] at e6; omega)
        simp -implicitDefEqProofs only [go_sem, c6]
        refine sub_mk [(5, 0)] rfl rfl rfl ?_
        simp only [tmSub, hpSub, objSub, eqTm, eqHp, rn, lk, SV.ren, SV.renC, SV.renB, SV.renA, ren_ints, ren_strs, ren_pl, ren_svs, SV.v.injEq, Value.int.injEq, Body.ints.injEq, SV.ptr.injEq, SV.sl.injEq, Value.string.injEq, Value.bool.injEq, List.map_cons, List.map_nil, forall_const, Nat.reduceLT, Nat.lt_add_one, imp_self, true_and, and_true, and_self, ob_some, get_mk, lk_cons, ↓reduceIte, Nat.reduceEqDiff, ne_eq, not_true_eq_false, not_false_eq_true, Nat.one_ne_zero, Nat.zero_ne_one, Nat.succ_ne_self, Nat.reduceAdd, Bool.false_eq_true, false_implies, implies_true, reduceCtorEq, q1, q2, q3, q4, List.length_nil]
        rfl
  · simp -implicitDefEqProofs only [go_sem, e4]
    have q2 : (stepD d).fa = d.fa := by simp only [decide_eq_false_iff_not] at e4; simp [stepD, hfa]; intro; omega
    refine loop_fam (fun t : Nat => t ≤ d.pend.length) (fun t => ⟨[(0, .ptr 1 0), (22, .sl 4 0 d.pend.length 65), (23, .v (.int .i64 d.pend.length)), (24, .v (.int .i64 t))],
      ⟨[(1, some ⟨true, .sv [.sl 2 0 d.seen.length 64, .sl 3 0 d.seen.length 64, .sl 4 0 d.pend.length 65, .v (.int .i64 (IntKind.i64.wrap (d.st + 1))), .v (.int .i64 d.fa), .v (.bool false)]⟩), (2, some ⟨true, .ints .u8 d.seen.flatten⟩), (3, some ⟨true, .ints .u8 (setl d.safe (d.pend.take t)).flatten⟩), (4, some ⟨false, .pl (prow d.pend)⟩)], x⟩, 5⟩) (fun t => d.pend.length - t) 0 (by omega) ?_ ?_
    · refine sub0 rfl rfl ?_
      simp only [tmSub, hpSub, objSub, eqTm, eqHp, rn, lk, SV.ren, SV.renC, SV.renB, SV.renA, ren_ints, ren_strs, ren_pl, ren_svs, SV.v.injEq, Value.int.injEq, Body.ints.injEq, SV.ptr.injEq, SV.sl.injEq, Value.string.injEq, Value.bool.injEq, List.map_cons, List.map_nil, forall_const, Nat.reduceLT, Nat.lt_add_one, imp_self, true_and, and_true, and_self, ob_some, get_mk, lk_cons, ↓reduceIte, Nat.reduceEqDiff, ne_eq, not_true_eq_false, not_false_eq_true, Nat.one_ne_zero, Nat.zero_ne_one, Nat.succ_ne_self, Nat.reduceAdd, Bool.false_eq_true, false_implies, implies_true, reduceCtorEq, setl]
      exact ⟨rfl, rfl⟩
    · intro t ht
      simp -implicitDefEqProofs only [go_sem]
      refine condK_bb (fun e6 => ?_) (fun e6 => ?_)
      · have c6 : t < d.pend.length := by simp only [decide_eq_true_eq] at e6; omega
        have hw := h5 (d.pend.getD t (0, [])) (by rw [List.getD_eq_getElem?_getD, List.getElem?_eq_getElem c6]; exact List.getElem_mem c6)
        have p1 := hrow t c6
        have p4 := setl_succ (S := d.safe) c6
        generalize d.pend.getD t (0, []) = w at hw p1 p4
        have p2 := zw_all hw.2
        have p3 := wcell_len hw.2
        have p5 : List.take 64 (w.2.map (Value.int .u8)) = w.2.map (Value.int .u8) := List.take_of_length_le (by simp; omega)
        have p6 := setl_all (ws := d.pend.take t) (S := d.safe) (fun w hw => (h5 w (List.mem_of_mem_take hw)).2) h2
        have p7 : (setl d.safe (d.pend.take t)).length = d.seen.length := by rw [setl_len, h3]
        have p8 := flat_set (s := w.2) p6 (by rw [p7]; exact hw.1) hw.2
        have p9 := flat_len p6
        simp -implicitDefEqProofs only [go_sem, p1, p2, p3, p5, p8, wcell_hd, wcell_tl, ones_wcell, List.length_map, hw.2]
        refine ⟨by omega, by omega, by omega, by omega, kLoop_mk (t + 1) (by omega) (by omega) (sub0 rfl rfl ?_)⟩
        simp only [tmSub, hpSub, objSub, eqTm, eqHp, rn, lk, SV.ren, SV.renC, SV.renB, SV.renA, ren_ints, ren_strs, ren_pl, ren_svs, SV.v.injEq, Value.int.injEq, Body.ints.injEq, SV.ptr.injEq, SV.sl.injEq, Value.string.injEq, Value.bool.injEq, List.map_cons, List.map_nil, forall_const, Nat.reduceLT, Nat.lt_add_one, imp_self, true_and, and_true, and_self, ob_some, get_mk, lk_cons, ↓reduceIte, Nat.reduceEqDiff, ne_eq, not_true_eq_false, not_false_eq_true, Nat.one_ne_zero, Nat.zero_ne_one, Nat.succ_ne_self, Nat.reduceAdd, Bool.false_eq_true, false_implies, implies_true, reduceCtorEq, p4]
        rw [wrap_i64 (by omega) (by omega)]
        exact Int.natCast_add t 1
      · have c6 : d.pend.take t = d.pend := List.take_of_length_le (by simp only [decide_eq_false_iff_not] at e6; omega)
        simp -implicitDefEqProofs only [go_sem, c6]
        refine sub_mk [(5, 0)] rfl rfl rfl ?_
        simp only [tmSub, hpSub, objSub, eqTm, eqHp, rn, lk, SV.ren, SV.renC, SV.renB, SV.renA, ren_ints, ren_strs, ren_pl, ren_svs, SV.v.injEq, Value.int.injEq, Body.ints.injEq, SV.ptr.injEq, SV.sl.injEq, Value.string.injEq, Value.bool.injEq, List.map_cons, List.map_nil, forall_const, Nat.reduceLT, Nat.lt_add_one, imp_self, true_and, and_true, and_self, ob_some, get_mk, lk_cons, ↓reduceIte, Nat.reduceEqDiff, ne_eq, not_true_eq_false, not_false_eq_true, Nat.one_ne_zero, Nat.zero_ne_one, Nat.succ_ne_self, Nat.reduceAdd, Bool.false_eq_true, false_implies, implies_true, reduceCtorEq, q1, q2, q3, q4, List.length_nil]
        rfl
variable {H : Hp} {n : Nat} {x : Nat → Option SO}
theorem wF12n {d d' : Fd} {e : Int} (hn : (if d.off then some ((7 : Int), d) else if d.fa = 1 then some (7, stepD d) else none) = some (e, d')) :
    fnVC C3 mFBarrier [.ptr 1 0] (hp3r d x) 5 fun v H' n' => Sub 5 ⟨[(0, .v (.int .i64 e))], hp3r d' x, 5⟩ ⟨[(0, v)], H', n'⟩ := by
  unfold hp3r devB secB mFBarrier
  simp -implicitDefEqProofs only [↓fnVC, initTm]
  cases hoff : d.off with
  | true =>
    rw [hoff, if_pos rfl] at hn
    cases hn
    simp -implicitDefEqProofs only [go_sem, hoff]
    refine sub_mk [] rfl rfl rfl ?_
    simp only [tmSub, hpSub, objSub, eqTm, eqHp, rn, lk, SV.ren, SV.renC, SV.renB, SV.renA, ren_ints, ren_strs, ren_pl, ren_svs, SV.v.injEq, Value.int.injEq, Body.ints.injEq, SV.ptr.injEq, SV.sl.injEq, Value.string.injEq, Value.bool.injEq, List.map_cons, List.map_nil, forall_const, Nat.reduceLT, Nat.lt_add_one, imp_self, true_and, and_true, and_self, ob_some, get_mk, lk_cons, ↓reduceIte, Nat.reduceEqDiff, ne_eq, not_true_eq_false, not_false_eq_true, Nat.one_ne_zero, Nat.zero_ne_one, Nat.succ_ne_self, Nat.reduceAdd, Bool.false_eq_true, false_implies, implies_true, reduceCtorEq, hoff]
  | false =>
    rw [hoff, if_neg (by simp)] at hn
    split at hn
    · rename_i c4
      cases hn
      simp -implicitDefEqProofs only [go_sem, hoff]
      refine in_call mix3 tFstep ?_
      unfold mFstep
      simp -implicitDefEqProofs only [↓fnVC, initTm]
      have e4 : decide ((1 : Int) > 0) = true := rfl
      have e5 : decide (IntKind.i64.wrap (1 - 1) = 0) = true := rfl
      have q1 : (stepD d).st = d.st := by simp [stepD, c4]
      have q2 : (stepD d).fa = IntKind.i64.wrap (1 - 1) := by simp [stepD, c4]; rfl
      have q3 : (stepD d).off = true := by simp [stepD, c4]
      have q4 : (stepD d).seen = d.seen := by simp [stepD, c4]
      have q5 : (stepD d).safe = d.safe := by simp [stepD, c4]
      have q6 : (stepD d).pend = d.pend := by simp [stepD, c4]
      simp -implicitDefEqProofs only [go_sem, c4, e4, e5]
      refine sub_mk [] rfl rfl rfl ?_
      simp only [tmSub, hpSub, objSub, eqTm, eqHp, rn, lk, SV.ren, SV.renC, SV.renB, SV.renA, ren_ints, ren_strs, ren_pl, ren_svs, SV.v.injEq, Value.int.injEq, Body.ints.injEq, SV.ptr.injEq, SV.sl.injEq, Value.string.injEq, Value.bool.injEq, List.map_cons, List.map_nil, forall_const, Nat.reduceLT, Nat.lt_add_one, imp_self, true_and, and_true, and_self, ob_some, get_mk, lk_cons, ↓reduceIte, Nat.reduceEqDiff, ne_eq, not_true_eq_false, not_false_eq_true, Nat.one_ne_zero, Nat.zero_ne_one, Nat.succ_ne_self, Nat.reduceAdd, Bool.false_eq_true, false_implies, implies_true, reduceCtorEq, q1, q2, q3, q4, q5, q6]
    · cases hn
def rdV (d : Fd) (k : Int) : SV :=
  if d.off then .tup [.v (.string ⟨#[]⟩), .v (.int .i64 7)] else if k < 0 ∨ (d.seen.length : Int) ≤ k then .tup [.v (.string ⟨#[]⟩), .v (.int .i64 1)] else .tup [.v (.string (tx (d.seen.getD k.toNat []))), .v (.int .i64 0)]
def hp3s (d : Fd) (x : Nat → Option SO) : Hp := ⟨[(1, some ⟨false, devB d 2 3 4⟩), (2, some ⟨false, secB d.seen⟩), (3, some ⟨false, secB d.safe⟩), (4, some ⟨false, .pl (prow d.pend)⟩)], x⟩
theorem wF14 {d : Fd} {k : Int} (hd : d.ok) :
    fnVC C3 mFRead [.ptr 1 0, .v (.int .i64 k)] (hp3s d x) 5 fun v H' n' => v = rdV d k ∧ H' = hp3s d x ∧ n' = 5 := by
  obtain ⟨h1, h2, h3, h4, h5, h6, h7, h8, h9, h10⟩ := hd
  unfold hp3s devB secB mFRead
  simp -implicitDefEqProofs only [↓fnVC, initTm]
  simp -implicitDefEqProofs only [go_sem]
  refine in_call mix3 tFat ?_
  unfold mFat
  simp -implicitDefEqProofs only [↓fnVC, initTm]
  cases hoff : d.off with
  | true =>
    have hv : rdV d k = .tup [.v (.string ⟨#[]⟩), .v (.int .i64 7)] := by unfold rdV; rw [if_pos hoff]
    simp -implicitDefEqProofs only [go_sem, hoff, hv]
  | false =>
    have hof : ¬ (d.off = true) := by rw [hoff]; simp
    simp -implicitDefEqProofs only [go_sem, hoff]
    by_cases c1 : k < 0
    · have e1 : decide (k < 0) = true := decide_eq_true c1
      have hv : rdV d k = .tup [.v (.string ⟨#[]⟩), .v (.int .i64 1)] := by unfold rdV; rw [if_neg hof, if_pos (Or.inl c1)]
      simp -implicitDefEqProofs only [go_sem, e1, hv]
    have e1 : decide (k < 0) = false := decide_eq_false c1
    simp -implicitDefEqProofs only [go_sem, e1]
    refine in_call mix3 tFSectors ?_
    unfold mFSectors
    simp -implicitDefEqProofs only [↓fnVC, initTm]
    by_cases c2 : (d.seen.length : Int) ≤ k
    · have e2 : decide (k ≥ (d.seen.length : Int)) = true := decide_eq_true c2
      have hv : rdV d k = .tup [.v (.string ⟨#[]⟩), .v (.int .i64 1)] := by unfold rdV; rw [if_neg hof, if_pos (Or.inr c2)]
      simp -implicitDefEqProofs only [go_sem, e1, e2, hv]
    have e2 : decide (k ≥ (d.seen.length : Int)) = false := decide_eq_false c2
    have hv : rdV d k = .tup [.v (.string (tx (d.seen.getD k.toNat []))), .v (.int .i64 0)] := by unfold rdV; rw [if_neg hof, if_neg (fun h => h.elim c1 c2)]
    have hk : k.toNat < d.seen.length := by omega
    have r1 := flat_take h1 hk
    have r2 := getD_len h1 hk
    have r3 := flat_len h1
    simp -implicitDefEqProofs only [go_sem, e1, e2, r1, hv]
    refine ⟨by omega, by rw [List.length_map, r3]; omega, by omega, by rw [r3]; omega⟩
def newD (k : Nat) : Fd := { seen := List.replicate k (zi 64), safe := List.replicate k (zi 64), pend := [], st := 0, fa := 0, off := false }
theorem newD_ok {k : Nat} (hk : k ≤ 4096) : (newD k).ok :=
  ⟨fun s hs => by rw [List.eq_of_mem_replicate hs]; simp [zi], fun s hs => by rw [List.eq_of_mem_replicate hs]; simp [zi], by simp [newD], by simp [newD]; exact hk, fun w hw => by simp [newD] at hw, by simp [newD], by simp [newD], by simp [newD], by simp [newD], by simp [newD]⟩
theorem reps_zi {k : Nat} : (Body.ints .u8 (zi 64)).reps k = secB (List.replicate k (zi 64)) := rfl
theorem wF10 {k : Nat} (h0 : 1 ≤ k) (hk : k ≤ 4096) :
    fnVC C3 mFNew [.v (.int .i64 k)] ⟨[], x⟩ 1 fun v H' n' => Sub 1 ⟨[(0, .tup [.ptr 1 0, .v (.int .i64 0)])], hp3 (newD k) x, 5⟩ ⟨[(0, v)], H', n'⟩ := by
  have e1 : decide ((k : Int) < 1) = false := decide_eq_false (by omega)
  have e2 : decide ((k : Int) > 4096) = false := decide_eq_false (by omega)
  unfold hp3 devB secB mFNew
  simp -implicitDefEqProofs only [↓fnVC, initTm]
  simp -implicitDefEqProofs only [go_sem, e1, e2]
  have hb : ((64 : Nat) : Int) * (k : Int) ≤ 140737488355328 := by omega
  refine ⟨⟨⟨by omega, by omega, by omega, hb⟩, ⟨by omega, by omega, by omega, hb⟩, sub_mk [(1, 3), (2, 1), (3, 2), (4, 0)] rfl rfl rfl ?_⟩, ⟨by omega, by omega, by omega, hb⟩, ⟨by omega, by omega, by omega, hb⟩, sub_mk [(1, 3), (2, 2), (3, 1), (4, 0)] rfl rfl rfl ?_⟩
  · simp only [tmSub, hpSub, objSub, eqTm, eqHp, rn, lk, SV.ren, SV.renC, SV.renB, SV.renA, ren_ints, ren_strs, ren_pl, ren_svs, SV.v.injEq, Value.int.injEq, Body.ints.injEq, SV.ptr.injEq, SV.sl.injEq, Value.string.injEq, Value.bool.injEq, List.map_cons, List.map_nil, forall_const, Nat.reduceLT, Nat.lt_add_one, imp_self, true_and, and_true, and_self, ob_some, get_mk, lk_cons, ↓reduceIte, Nat.reduceEqDiff, ne_eq, not_true_eq_false, not_false_eq_true, Nat.one_ne_zero, Nat.zero_ne_one, Nat.succ_ne_self, Nat.reduceAdd, Bool.false_eq_true, false_implies, implies_true, reduceCtorEq, splice_zero, splice_succ, List.drop_succ_cons, List.drop_zero, List.drop_nil, List.cons_append, List.nil_append, List.length_cons, List.length_nil, newD, reps_zi, List.length_replicate, secB, prow, List.map_nil, List.flatten_nil]
    rfl
  · simp only [tmSub, hpSub, objSub, eqTm, eqHp, rn, lk, SV.ren, SV.renC, SV.renB, SV.renA, ren_ints, ren_strs, ren_pl, ren_svs, SV.v.injEq, Value.int.injEq, Body.ints.injEq, SV.ptr.injEq, SV.sl.injEq, Value.string.injEq, Value.bool.injEq, List.map_cons, List.map_nil, forall_const, Nat.reduceLT, Nat.lt_add_one, imp_self, true_and, and_true, and_self, ob_some, get_mk, lk_cons, ↓reduceIte, Nat.reduceEqDiff, ne_eq, not_true_eq_false, not_false_eq_true, Nat.one_ne_zero, Nat.zero_ne_one, Nat.succ_ne_self, Nat.reduceAdd, Bool.false_eq_true, false_implies, implies_true, reduceCtorEq, splice_zero, splice_succ, List.drop_succ_cons, List.drop_zero, List.drop_nil, List.cons_append, List.nil_append, List.length_cons, List.length_nil, newD, reps_zi, List.length_replicate, secB, prow, List.map_nil, List.flatten_nil]
    rfl
variable {H : Hp} {n : Nat} {x : Nat → Option SO}
variable {H : Hp} {n : Nat} {x : Nat → Option SO} {d d' : Fd} {i a b c : Nat}
theorem ok3 : OKT Tryz.prog C3 := okCS mix3
abbrev dis4 (i a b c : Nat) : Prop := (0 < i ∧ 0 < a ∧ 0 < b ∧ 0 < c) ∧ (i < 1000 ∧ a < 1000 ∧ b < 1000 ∧ c < 1000) ∧ i ≠ a ∧ i ≠ b ∧ i ≠ c ∧ a ≠ b ∧ a ≠ c ∧ b ≠ c
structure DevAt (H : Hp) (d : Fd) (i a b c : Nat) : Prop where
  gi : H.get i = some ⟨true, devB d a b c⟩
  ga : H.get a = some ⟨true, secB d.seen⟩
  gb : H.get b = some ⟨true, secB d.safe⟩
  gc : H.get c = some ⟨true, .pl (prow d.pend)⟩
  ne : dis4 i a b c
theorem wrS {k : Nat} {s : ByteArray} (h : DevAt H d i a b c) (hd : d.ok) (hk : k < d.seen.length) (hs : s.size ≤ 64) (hoff : d.off = false) (hfa : d.fa ≠ 1) (hn : n < 1000) :
    SpecAt Tryz.prog nFWrite [.ptr i 0, .v (.int .i64 k), .v (.string s)] H n (.v (.int .i64 0))
      ⟨(i, some ⟨true, devB { stepD d with seen := d.seen.set k (pad64 (bts s)), pend := d.pend ++ [(k, pad64 (bts s))] } a b n⟩) :: (a, some ⟨true, secB (d.seen.set k (pad64 (bts s)))⟩) :: (b, some ⟨true, secB d.safe⟩) :: (c, none) :: (n, some ⟨true, .pl (prow (d.pend ++ [(k, pad64 (bts s))]))⟩) :: H.l, H.x⟩ (n + 1) := by
  obtain ⟨hi, ha, hb, hc, ⟨p1, p2, p3, p4⟩, ⟨q1, q2, q3, q4⟩, n1, n2, n3, n4, n5, n6⟩ := h
  have := lift (n := n) (ok3.spec tFWrite (wF11 (x := H.x) hd hk hs hoff hfa)) [(1, i), (2, a), (3, b), (4, c)] rfl rfl rfl (by omega) rfl rfl
    ⟨sub_wr rfl p1 q1 hi rfl, sub_wr rfl p2 q2 ha rfl, sub_wr rfl p3 q3 hb rfl, sub_wr rfl p4 q4 hc rfl, trivial⟩
    (by simp [apartB, apart1, rn, lk, n1, n2, n3, n4, n5, n6, Ne.symm n1, Ne.symm n2, Ne.symm n3, Ne.symm n4, Ne.symm n5, Ne.symm n6]) (by simp [wrNZ, rn, lk]; try omega) (by omega)
  exact this
theorem wrF {k e : Int} {s : ByteArray} (h : DevAt H d i a b c) (hd : d.ok) (hw : wrNo d k s = some (e, d')) (hr : d'.seen = d.seen ∧ d'.safe = d.safe ∧ d'.pend = d.pend) :
    SpecAt Tryz.prog nFWrite [.ptr i 0, .v (.int .i64 k), .v (.string s)] H n (.v (.int .i64 e)) ⟨(i, some ⟨true, devB d' a b c⟩) :: H.l, H.x⟩ n := by
  obtain ⟨hi, ha, hb, hc, ⟨p1, p2, p3, p4⟩, ⟨q1, q2, q3, q4⟩, n1, n2, n3, n4, n5, n6⟩ := h
  have := lift (n := n) (ok3.spec tFWrite (wF11n (x := H.x) hd hw)) [(1, i), (2, a), (3, b), (4, c)] rfl rfl rfl (by omega) rfl rfl
    ⟨sub_wr rfl p1 q1 hi rfl, sub_ro rfl p2 ha rfl, sub_ro rfl p3 hb rfl, sub_ro rfl p4 hc rfl, trivial⟩
    (by simp [apartB, apart1, rn, lk, n1, n2, n3, n4, n5, n6, Ne.symm n1, Ne.symm n2, Ne.symm n3, Ne.symm n4, Ne.symm n5, Ne.symm n6]) (by simp [wrNZ, rn, lk]; try omega) (by omega)
  exact this
theorem baS (h : DevAt H d i a b c) (hd : d.ok) (hoff : d.off = false) (hfa : d.fa ≠ 1) (hn : n < 1000) :
    SpecAt Tryz.prog nFBarrier [.ptr i 0] H n (.v (.int .i64 0))
      ⟨(i, some ⟨true, devB { stepD d with safe := setl d.safe d.pend, pend := [] } a b n⟩) :: (a, some ⟨true, secB d.seen⟩) :: (b, some ⟨true, secB (setl d.safe d.pend)⟩) :: (n, some ⟨true, .pl []⟩) :: H.l, H.x⟩ (n + 1) := by
  obtain ⟨hi, ha, hb, hc, ⟨p1, p2, p3, p4⟩, ⟨q1, q2, q3, q4⟩, n1, n2, n3, n4, n5, n6⟩ := h
  have := lift (n := n) (ok3.spec tFBarrier (wF12 (x := H.x) hd hoff hfa)) [(1, i), (2, a), (3, b), (4, c)] rfl rfl rfl (by omega) rfl rfl
    ⟨sub_wr rfl p1 q1 hi rfl, sub_wr rfl p2 q2 ha rfl, sub_wr rfl p3 q3 hb rfl, sub_ro rfl p4 hc rfl, trivial⟩
    (by simp [apartB, apart1, rn, lk, n1, n2, n3, n4, n5, n6, Ne.symm n1, Ne.symm n2, Ne.symm n3, Ne.symm n4, Ne.symm n5, Ne.symm n6]) (by simp [wrNZ, rn, lk]; try omega) (by omega)
  exact this
theorem baF {e : Int} (h : DevAt H d i a b c) (hw : (if d.off then some ((7 : Int), d) else if d.fa = 1 then some (7, stepD d) else none) = some (e, d')) :
    SpecAt Tryz.prog nFBarrier [.ptr i 0] H n (.v (.int .i64 e)) ⟨(i, some ⟨true, devB d' a b c⟩) :: H.l, H.x⟩ n := by
  obtain ⟨hi, ha, hb, hc, ⟨p1, p2, p3, p4⟩, ⟨q1, q2, q3, q4⟩, n1, n2, n3, n4, n5, n6⟩ := h
  have := lift (n := n) (ok3.spec tFBarrier (wF12n (x := H.x) hw)) [(1, i), (2, a), (3, b), (4, c)] rfl rfl rfl (by omega) rfl rfl
    ⟨sub_wr rfl p1 q1 hi rfl, sub_ro rfl p2 ha rfl, sub_ro rfl p3 hb rfl, sub_ro rfl p4 hc rfl, trivial⟩
    (by simp [apartB, apart1, rn, lk, n1, n2, n3, n4, n5, n6, Ne.symm n1, Ne.symm n2, Ne.symm n3, Ne.symm n4, Ne.symm n5, Ne.symm n6]) (by simp [wrNZ, rn, lk]; try omega) (by omega)
  exact this
theorem nwS {k : Nat} (h0 : 1 ≤ k) (hk : k ≤ 4096) (hn : n + 4 ≤ 1000) :
    SpecAt Tryz.prog nFNew [.v (.int .i64 k)] H n (.tup [.ptr n 0, .v (.int .i64 0)])
      ⟨(n, some ⟨true, devB (newD k) (n + 1) (n + 1 + 1) (n + 1 + 1 + 1)⟩) :: (n + 1, some ⟨true, secB (newD k).seen⟩) :: (n + 1 + 1, some ⟨true, secB (newD k).safe⟩) :: (n + 1 + 1 + 1, some ⟨true, .pl (prow (newD k).pend)⟩) :: H.l, H.x⟩ (n + 4) := by
  have := lift (n := n) (ok3.spec tFNew (wF10 (x := H.x) h0 hk)) [] rfl rfl rfl (by omega) rfl rfl trivial rfl rfl (by omega)
  exact this
variable {H : Hp} {n : Nat} {x : Nat → Option SO} {d d' : Fd} {i a b c : Nat}
def wrD (d : Fd) (k : Nat) (s : ByteArray) : Fd := { stepD d with seen := d.seen.set k (pad64 (bts s)), pend := d.pend ++ [(k, pad64 (bts s))] }
def baD (d : Fd) : Fd := { stepD d with safe := setl d.safe d.pend, pend := [] }
theorem stepD_no (h : d.fa ≠ 1) : stepD d = { d with fa := if 0 < d.fa then d.fa - 1 else d.fa, st := d.st + 1 } := by unfold stepD; rw [if_neg h]
theorem wrD_ok {k : Nat} {s : ByteArray} (hd : d.ok) (hk : k < d.seen.length) (hs : s.size ≤ 64) (hfa : d.fa ≠ 1) (hst : d.st < 1000000000000) (hfew : d.pend.length < 1000000000) : (wrD d k s).ok := by
  obtain ⟨h1, h2, h3, h4, h5, h6, h7, h8, h9, h10⟩ := hd
  have hp := pad64_len (ys := bts s) (by rw [bts_length]; exact hs)
  unfold wrD
  rw [stepD_no hfa]
  refine ⟨set_all h1 hp, h2, by simp [h3], by simp [h4], fun w hw => ?_, by simp; omega, by simp; omega, by simp; omega, by simp only; split <;> omega, by simp only; split <;> omega⟩
  simp only [List.mem_append, List.mem_singleton, List.length_set] at hw ⊢
  rcases hw with hw | rfl
  · exact h5 w hw
  · exact ⟨hk, hp⟩
theorem baD_ok (hd : d.ok) (hfa : d.fa ≠ 1) (hst : d.st < 1000000000000) : (baD d).ok := by
  obtain ⟨h1, h2, h3, h4, h5, h6, h7, h8, h9, h10⟩ := hd
  unfold baD
  rw [stepD_no hfa]
  exact ⟨h1, setl_all (fun w hw => (h5 w hw).2) h2, by simp only [setl_len]; exact h3, h4, fun w hw => by simp at hw, by simp, by simp only; omega, by simp only; omega, by simp only; split <;> omega, by simp only; split <;> omega⟩
theorem wrD_safe {k : Nat} {s : ByteArray} : (wrD d k s).safe = d.safe := by unfold wrD stepD; simp only; split <;> rfl
theorem wrD_len {k : Nat} {s : ByteArray} : (wrD d k s).seen.length = d.seen.length := by simp [wrD]
theorem wrD_off {k : Nat} {s : ByteArray} (h : d.fa ≠ 1) : (wrD d k s).off = d.off := by unfold wrD; rw [stepD_no h]
theorem wrD_fa {k : Nat} {s : ByteArray} (h : d.fa = 0) : (wrD d k s).fa = 0 := by unfold wrD; rw [stepD_no (by omega)]; simp [h]
theorem wrD_st {k : Nat} {s : ByteArray} (h : d.fa ≠ 1) : (wrD d k s).st = d.st + 1 := by unfold wrD; rw [stepD_no h]
theorem wrD_pend {k : Nat} {s : ByteArray} : (wrD d k s).pend = d.pend ++ [(k, pad64 (bts s))] := rfl
theorem wrD_seen {k : Nat} {s : ByteArray} : (wrD d k s).seen = d.seen.set k (pad64 (bts s)) := rfl
theorem baD_seen : (baD d).seen = d.seen := by unfold baD stepD; simp only; split <;> rfl
theorem baD_off (h : d.fa ≠ 1) : (baD d).off = d.off := by unfold baD; rw [stepD_no h]
theorem baD_fa (h : d.fa = 0) : (baD d).fa = 0 := by unfold baD; rw [stepD_no (by omega)]; simp [h]
theorem baD_st (h : d.fa ≠ 1) : (baD d).st = d.st + 1 := by unfold baD; rw [stepD_no h]
def devL (d : Fd) (i a b c : Nat) (l : List (Nat × Option SO)) : List (Nat × Option SO) :=
  (i, some ⟨true, devB d a b c⟩) :: (a, some ⟨true, secB d.seen⟩) :: (b, some ⟨true, secB d.safe⟩) :: (c, some ⟨true, .pl (prow d.pend)⟩) :: l
theorem devL_eq {l : List (Nat × Option SO)} : devL d i a b c l = (i, some ⟨true, devB d a b c⟩) :: (a, some ⟨true, secB d.seen⟩) :: (b, some ⟨true, secB d.safe⟩) :: (c, some ⟨true, .pl (prow d.pend)⟩) :: l := rfl
theorem nwD {k : Nat} (h0 : 1 ≤ k) (hk : k ≤ 4096) (hn : n + 4 ≤ 1000) :
    SpecAt Tryz.prog nFNew [.v (.int .i64 k)] H n (.tup [.ptr n 0, .v (.int .i64 0)]) ⟨devL (newD k) n (n + 1) (n + 1 + 1) (n + 1 + 1 + 1) H.l, H.x⟩ (n + 4) := nwS h0 hk hn
theorem wrW {k : Nat} {s : ByteArray} (h : DevAt H d i a b c) (hd : d.ok) (hk : k < d.seen.length) (hs : s.size ≤ 64) (hoff : d.off = false) (hfa : d.fa ≠ 1) (hn : n < 1000) (hD : wrD d k s = d') :
    SpecAt Tryz.prog nFWrite [.ptr i 0, .v (.int .i64 k), .v (.string s)] H n (.v (.int .i64 0))
      ⟨(i, some ⟨true, devB d' a b n⟩) :: (a, some ⟨true, secB d'.seen⟩) :: (b, some ⟨true, secB d'.safe⟩) :: (c, none) :: (n, some ⟨true, .pl (prow d'.pend)⟩) :: H.l, H.x⟩ (n + 1) := by
  subst hD
  rw [wrD_safe]
  exact wrS h hd hk hs hoff hfa hn
theorem baW (h : DevAt H d i a b c) (hd : d.ok) (hoff : d.off = false) (hfa : d.fa ≠ 1) (hn : n < 1000) (hD : baD d = d') :
    SpecAt Tryz.prog nFBarrier [.ptr i 0] H n (.v (.int .i64 0))
      ⟨(i, some ⟨true, devB d' a b n⟩) :: (a, some ⟨true, secB d'.seen⟩) :: (b, some ⟨true, secB d'.safe⟩) :: (n, some ⟨true, .pl (prow d'.pend)⟩) :: H.l, H.x⟩ (n + 1) := by
  subst hD
  rw [baD_seen]
  exact baS h hd hoff hfa hn
structure Gd (d : Fd) (k m : Nat) : Prop where
  ok : d.ok
  len : d.seen.length = k
  fa : d.fa = 0
  off : d.off = false
  st : d.st ≤ m
  few : d.pend.length ≤ m
theorem Gd.new {k : Nat} (hk : k ≤ 4096) : Gd (newD k) k 0 := ⟨newD_ok hk, by simp [newD], rfl, rfl, by simp [newD], by simp [newD]⟩
theorem Gd.wr {k m j : Nat} {s : ByteArray} (h : Gd d k m) (hj : j < k) (hs : s.size ≤ 64) (hm : m < 1000000) : Gd (wrD d j s) k (m + 1) :=
  have hf : d.fa ≠ 1 := by rw [h.fa]; omega
  ⟨wrD_ok h.ok (by rw [h.len]; exact hj) hs hf (by have := h.st; omega) (by have := h.few; omega), by rw [wrD_len, h.len], wrD_fa h.fa, by rw [wrD_off hf, h.off], by rw [wrD_st hf]; have := h.st; omega, by rw [wrD_pend]; have := h.few; simp; omega⟩
theorem Gd.ba {k m : Nat} (h : Gd d k m) (hm : m < 1000000) : Gd (baD d) k (m + 1) :=
  have hf : d.fa ≠ 1 := by rw [h.fa]; omega
  ⟨baD_ok h.ok hf (by have := h.st; omega), by rw [baD_seen, h.len], baD_fa h.fa, by rw [baD_off hf, h.off], by rw [baD_st hf]; have := h.st; omega, by simp [baD]⟩
end
section
/- A device, at this program. -/
set_option linter.unusedVariables false
set_option linter.unusedSimpArgs false
set_option maxRecDepth 100000
open Go.Proofs
variable {H : Hp} {n : Nat} {x : Nat → Option SO} {d d' : Fd} {i a b c : Nat}
variable {H : Hp} {n : Nat} {x : Nat → Option SO} {d d' : Fd} {i a b c : Nat}
theorem offS (hg : H.get i = some ⟨true, devB d a b c⟩) : SpecAt Tryz.prog nFOff [.ptr i 0] H n (.v (.bool d.off)) H n := ok3.pure tFOff (by
  unfold mFOff
  simp -implicitDefEqProofs only [↓fnVC, initTm]
  simp -implicitDefEqProofs only [go_sem, hg, devB])
theorem stS (hg : H.get i = some ⟨true, devB d a b c⟩) : SpecAt Tryz.prog nFSteps [.ptr i 0] H n (.v (.int .i64 d.st)) H n := ok3.pure tFSteps (by
  unfold mFSteps
  simp -implicitDefEqProofs only [↓fnVC, initTm]
  simp -implicitDefEqProofs only [go_sem, hg, devB])
theorem seS (hg : H.get i = some ⟨true, devB d a b c⟩) : SpecAt Tryz.prog nFSectors [.ptr i 0] H n (.v (.int .i64 d.seen.length)) H n := ok3.pure tFSectors (by
  unfold mFSectors
  simp -implicitDefEqProofs only [↓fnVC, initTm]
  simp -implicitDefEqProofs only [go_sem, hg, devB])
variable {H : Hp} {n : Nat} {x : Nat → Option SO} {d d' : Fd} {i a b c : Nat}
variable {H : Hp} {n : Nat} {x : Nat → Option SO} {d d' : Fd} {i a b c : Nat}
def Sn (d : Fd) : Prop := d.seen = setl d.safe d.pend
theorem Sn.new {k : Nat} : Sn (newD k) := rfl
theorem setl_app {S : List (List Int)} {ws : List (Nat × List Int)} {w : Nat × List Int} : setl S (ws ++ [w]) = (setl S ws).set w.1 w.2 := by simp [setl, List.foldl_append]
theorem Sn.wr {j : Nat} {s : ByteArray} (h : Sn d) : Sn (wrD d j s) := by
  unfold Sn at *
  rw [wrD_seen, wrD_safe, wrD_pend, setl_app, ← h]
theorem Sn.ba (h : Sn d) : (baD d).seen = (baD d).safe := by
  rw [baD_seen]; exact h
open Go.ChangeShapes Go.WideShapes Go.ChangeAt Go.RowKit in
variable {H : Hp} {n : Nat} {x : Nat → Option SO} {d d' : Fd} {i a b c : Nat}
def qcell (w : Nat × List Int) : List Value := [.int .i64 w.1, .string (tx w.2)]
def qrow (ws : List (Nat × List Int)) : List Value := (ws.map qcell).flatten
def refB (d : Fd) (a b : Nat) : Body := .sv [.sl a 0 d.seen.length 1, .sl b 0 d.pend.length 2, .v (.int .i64 d.st), .v (.int .i64 d.fa), .v (.bool d.off)]
def strB (l : List (List Int)) : Body := .strs (l.map tx)
variable {H : Hp} {n : Nat} {x : Nat → Option SO} {d d' : Fd} {i a b c : Nat} {u1 u2 u3 : Bool}
structure RefAt (H : Hp) (d : Fd) (i a b : Nat) (u1 u2 u3 : Bool) : Prop where
  gi : H.get i = some ⟨u1, refB d a b⟩
  ga : H.get a = some ⟨u2, strB d.safe⟩
  gb : H.get b = some ⟨u3, .pl (qrow d.pend)⟩
  ne : (0 < i ∧ 0 < a ∧ 0 < b) ∧ (i < 1000 ∧ a < 1000 ∧ b < 1000) ∧ i ≠ a ∧ i ≠ b ∧ a ≠ b
theorem stepD_safe : (stepD d).safe = d.safe ∧ (stepD d).pend = d.pend ∧ (stepD d).seen = d.seen := by unfold stepD; split <;> exact ⟨rfl, rfl, rfl⟩
theorem setl_none {S : List (List Int)} {j : Nat} : ∀ {ws : List (Nat × List Int)}, (∀ w ∈ ws, w.1 ≠ j) → (setl S ws).getD j [] = S.getD j []
  | ws, h => by
    induction ws generalizing S with
    | nil => rfl
    | cons w ws ih =>
      show (setl (S.set w.1 w.2) ws).getD j [] = _
      rw [ih (fun w' hw' => h w' (List.mem_cons_of_mem _ hw')), List.getD_eq_getElem?_getD, List.getElem?_set_ne (h w (List.mem_cons_self ..)), List.getD_eq_getElem?_getD]
theorem setl_split {S : List (List Int)} {ws vs : List (Nat × List Int)} : setl S (ws ++ vs) = setl (setl S ws) vs := by simp [setl, List.foldl_append]
theorem setl_hit {S : List (List Int)} {j t : Nat} {ws : List (Nat × List Int)} (ht : t < ws.length) (hj : j < S.length) (h1 : (ws.getD t (0, [])).1 = j) (h : ∀ w ∈ ws.drop (t + 1), w.1 ≠ j) : (setl S ws).getD j [] = (ws.getD t (0, [])).2 := by
  have e : ws = ws.take (t + 1) ++ ws.drop (t + 1) := (List.take_append_drop _ _).symm
  rw [e, setl_split, setl_none h, setl_succ ht, h1, List.getD_eq_getElem?_getD, List.getElem?_set_self (by rw [setl_len]; exact hj)]
  rw [← e]; rfl
variable {H : Hp} {n : Nat} {x : Nat → Option SO} {d d' : Fd} {i a b c : Nat} {u1 u2 u3 : Bool}
variable {H : Hp} {n : Nat} {x : Nat → Option SO} {d d' : Fd} {i a b c : Nat} {u1 u2 u3 : Bool}
structure Pl (d : Fd) (k t : Nat) : Prop where
  ok : d.ok
  len : d.seen.length = k
  sn : Sn d
  st : d.st ≤ t
  few : d.pend.length ≤ t
theorem Pl.new {k : Nat} (hk : k ≤ 4096) : Pl (newD k) k 0 := ⟨newD_ok hk, by simp [newD], Sn.new, by simp [newD], by simp [newD]⟩
theorem Pl.wr {k t j : Nat} {s : ByteArray} (h : Pl d k t) (hj : j < k) (hs : s.size ≤ 64) (hf : d.fa ≠ 1) (ht : t < 1000000) : Pl (wrD d j s) k (t + 1) :=
  ⟨wrD_ok h.ok (by rw [h.len]; exact hj) hs hf (by have := h.st; omega) (by have := h.few; omega), by rw [wrD_len, h.len], h.sn.wr, by rw [wrD_st hf]; have := h.st; omega, by rw [wrD_pend]; have := h.few; simp; omega⟩
theorem Pl.ba {k t : Nat} (h : Pl d k t) (hf : d.fa ≠ 1) (ht : t < 1000000) : Pl (baD d) k (t + 1) :=
  ⟨baD_ok h.ok hf (by have := h.st; omega), by rw [baD_seen, h.len], h.sn.ba, by rw [baD_st hf]; have := h.st; omega, by simp [baD]⟩
theorem Pl.step {k t : Nat} (h : Pl d k t) (hf : d.fa = 1) : Pl (stepD d) k (t + 1) := by
  obtain ⟨⟨h1, h2, h3, h4, h5, h6, h7, h8, h9, h10⟩, hl, hs, ht, hw⟩ := h
  unfold stepD
  rw [if_pos hf]
  exact ⟨⟨h1, h2, h3, h4, h5, h6, h7, h8, Int.le_refl _, by simp only; omega⟩, hl, hs, by simp only; omega, by simp only; omega⟩
theorem Pl.more {k t : Nat} (h : Pl d k t) : Pl d k (t + 1) := ⟨h.ok, h.len, h.sn, by have := h.st; omega, by have := h.few; omega⟩
theorem wrNo_some {e k : Int} {s : ByteArray} (h : wrNo d k s = some (e, d')) : d' = d ∨ d' = stepD d ∧ d.fa = 1 := by
  unfold wrNo at h
  split at h
  · cases h; exact .inl rfl
  split at h
  · cases h; exact .inl rfl
  split at h
  · cases h; exact .inl rfl
  split at h
  · rename_i c; cases h; exact .inr ⟨rfl, c⟩
  · cases h
theorem wrNo_none {k : Int} {s : ByteArray} (h : wrNo d k s = none) : d.off = false ∧ (∃ j : Nat, k = j ∧ j < d.seen.length) ∧ s.size ≤ 64 ∧ d.fa ≠ 1 := by
  unfold wrNo at h
  split at h
  · cases h
  rename_i c1
  split at h
  · cases h
  rename_i c2
  split at h
  · cases h
  rename_i c3
  split at h
  · cases h
  rename_i c4
  exact ⟨by simpa using c1, ⟨k.toNat, by omega, by omega⟩, by omega, c4⟩
theorem Pl.no {e k : Int} {s : ByteArray} {m t : Nat} (hP : Pl d m t) (h : wrNo d k s = some (e, d')) : Pl d' m (t + 1) ∧ d'.seen = d.seen ∧ d'.safe = d.safe ∧ d'.pend = d.pend := by
  rcases wrNo_some h with rfl | ⟨rfl, hf⟩
  · exact ⟨hP.more, rfl, rfl, rfl⟩
  · exact ⟨hP.step hf, stepD_safe.2.2, stepD_safe.1, stepD_safe.2.1⟩
def baNo (d : Fd) : Option (Int × Fd) := if d.off then some ((7 : Int), d) else if d.fa = 1 then some (7, stepD d) else none
theorem Pl.bno {e : Int} {m t : Nat} (hP : Pl d m t) (h : baNo d = some (e, d')) : Pl d' m (t + 1) ∧ d'.seen = d.seen ∧ d'.safe = d.safe ∧ d'.pend = d.pend := by
  unfold baNo at h
  split at h
  · cases h; exact ⟨hP.more, rfl, rfl, rfl⟩
  split at h
  · rename_i c; cases h; exact ⟨hP.step c, stepD_safe.2.2, stepD_safe.1, stepD_safe.2.1⟩
  · cases h
theorem baNo_none (h : baNo d = none) : d.off = false ∧ d.fa ≠ 1 := by
  unfold baNo at h
  split at h
  · cases h
  rename_i c1
  split at h
  · cases h
  rename_i c2
  exact ⟨by simpa using c1, c2⟩
end
end Go.Sx
/- Slots: a device's writes and barriers, whatever comes of them. -/
set_option linter.unusedVariables false
set_option linter.unusedSimpArgs false
set_option maxRecDepth 100000
namespace Go.Sx
open Go.Proofs
variable {H : Hp} {n : Nat} {x : Nat → Option SO} {d d' : Fd} {i a b c : Nat} {u1 u2 u3 : Bool}
theorem SpecAt.sub {P : Program} {f : Nat} {args : List SV} {v v2 : SV} {H' H2 : Hp} {n' n2 : Nat} (h : SpecAt P f args H n v H' n') (hs : Sub n ⟨[(0, v2)], H2, n2⟩ ⟨[(0, v)], H', n'⟩) : SpecAt P f args H n v2 H2 n2 := by
  intro F w0 w ρ xs hH hz hl
  refine (h F w0 w ρ xs hH hz hl).mono ?_
  rintro e w' ⟨x, ρ1, rfl, hr, hlt, hH1, hx, hn⟩
  obtain ⟨ρ', hR⟩ := hs.sound (N := 1) (ρ0 := ρ) (a := ⟨#[x], []⟩) hH.pos ⟨⟨F, w0, hH1, Sup.refl hH1, trivial⟩, ⟨⟨fun t u hu => by
    simp only [lk] at hu
    split at hu
    · rename_i e; subst e; cases hu; exact ⟨⟨x, rfl, hr⟩, hlt⟩
    · cases hu⟩, rfl, rfl⟩, hx, hn⟩
  obtain ⟨⟨y, hy, hry⟩, hly⟩ := hR.a.t.get 0 v2 rfl
  simp at hy; subst hy
  exact ⟨x, ρ', rfl, hry, hly, hR.h, hR.e, hR.b⟩
def wrT (d : Fd) (k : Int) (s : ByteArray) : Int × Fd := match wrNo d k s with
  | some p => p
  | none => (0, wrD d k.toNat s)
def baT (d : Fd) : Int × Fd := match baNo d with
  | some p => p
  | none => (0, baD d)
theorem wrT_pl {k : Int} {s : ByteArray} {m t : Nat} (hP : Pl d m t) (ht : t < 1000000) : Pl (wrT d k s).2 m (t + 1) := by
  unfold wrT
  cases hw : wrNo d k s with
  | some p => exact (hP.no hw).1
  | none =>
    obtain ⟨h1, ⟨j, rfl, hj⟩, h3, h4⟩ := wrNo_none hw
    exact hP.wr (by rw [← hP.len]; exact hj) h3 h4 ht
theorem baT_pl {m t : Nat} (hP : Pl d m t) (ht : t < 1000000) : Pl (baT d).2 m (t + 1) := by
  unfold baT
  cases hw : baNo d with
  | some p => exact (hP.bno hw).1
  | none => exact hP.ba (baNo_none hw).2 ht
theorem devC : DevAt (hp3 d x) d 1 2 3 4 := ⟨rfl, rfl, rfl, rfl, by decide⟩
def devK (d : Fd) : List (Nat × Option SO) := [(1, some ⟨true, devB d 5 6 7⟩), (2, none), (3, none), (4, none), (5, some ⟨true, secB d.seen⟩), (6, some ⟨true, secB d.safe⟩), (7, some ⟨true, .pl (prow d.pend)⟩)]
theorem wrTc {k : Int} {s : ByteArray} {m t : Nat} (hP : Pl d m t) (ht : t < 1000000) :
    SpecAt Tryz.prog nFWrite [.ptr 1 0, .v (.int .i64 k), .v (.string s)] (hp3 d x) 5 (.v (.int .i64 (wrT d k s).1)) ⟨devK (wrT d k s).2, x⟩ 8 := by
  unfold wrT
  cases hw : wrNo d k s with
  | some p =>
    obtain ⟨e, d'⟩ := p
    obtain ⟨hP', hr⟩ := hP.no hw
    refine (wrF devC hP.ok hw hr).sub ?_
    refine sub_mk [(5, 2), (6, 3), (7, 4)] rfl rfl rfl ?_
    obtain ⟨h1, h2, h3⟩ := hr
    simp only [devK, devB, secB, hp3, tmSub, hpSub, objSub, eqTm, eqHp, rn, lk, SV.ren, SV.renC, SV.renB, SV.renA, ren_ints, ren_strs, ren_pl, ren_svs, SV.v.injEq, Value.int.injEq, Body.ints.injEq, SV.ptr.injEq, SV.sl.injEq, Value.string.injEq, Value.bool.injEq, List.map_cons, List.map_nil, forall_const, Nat.reduceLT, Nat.lt_add_one, imp_self, true_and, and_true, and_self, ob_some, get_mk, lk_cons, ↓reduceIte, Nat.reduceEqDiff, ne_eq, not_true_eq_false, not_false_eq_true, Nat.one_ne_zero, Nat.zero_ne_one, Nat.succ_ne_self, Nat.reduceAdd, Bool.false_eq_true, false_implies, implies_true, reduceCtorEq, h1, h2, h3]
  | none =>
    obtain ⟨h1, ⟨j, rfl, hj⟩, h3, h4⟩ := wrNo_none hw
    refine (wrW devC hP.ok hj h3 h1 h4 (by decide) rfl).sub ?_
    refine sub_mk [(5, 2), (6, 3), (7, 5)] rfl rfl rfl ?_
    simp only [devK, devB, secB, hp3, tmSub, hpSub, objSub, eqTm, eqHp, rn, lk, SV.ren, SV.renC, SV.renB, SV.renA, ren_ints, ren_strs, ren_pl, ren_svs, SV.v.injEq, Value.int.injEq, Body.ints.injEq, SV.ptr.injEq, SV.sl.injEq, Value.string.injEq, Value.bool.injEq, List.map_cons, List.map_nil, forall_const, Nat.reduceLT, Nat.lt_add_one, imp_self, true_and, and_true, and_self, ob_some, get_mk, lk_cons, ↓reduceIte, Nat.reduceEqDiff, ne_eq, not_true_eq_false, not_false_eq_true, Nat.one_ne_zero, Nat.zero_ne_one, Nat.succ_ne_self, Nat.reduceAdd, Bool.false_eq_true, false_implies, implies_true, reduceCtorEq, Int.toNat_natCast]
theorem wrTS {k : Int} {s : ByteArray} {m t : Nat} (h : DevAt H d i a b c) (hP : Pl d m t) (ht : t < 1000000) (hn : n + 3 ≤ 1000) {e : Int} (hD : wrT d k s = (e, d')) :
    SpecAt Tryz.prog nFWrite [.ptr i 0, .v (.int .i64 k), .v (.string s)] H n (.v (.int .i64 e))
      ⟨(i, some ⟨true, devB d' n (n + 1) (n + 1 + 1)⟩) :: (a, none) :: (b, none) :: (c, none) :: (n, some ⟨true, secB d'.seen⟩) :: (n + 1, some ⟨true, secB d'.safe⟩) :: (n + 1 + 1, some ⟨true, .pl (prow d'.pend)⟩) :: H.l, H.x⟩ (n + 3) := by
  obtain ⟨hi, ha, hb, hc, ⟨p1, p2, p3, p4⟩, ⟨q1, q2, q3, q4⟩, n1, n2, n3, n4, n5, n6⟩ := h
  have e1 : (wrT d k s).1 = e := by rw [hD]
  have e2 : (wrT d k s).2 = d' := by rw [hD]
  subst e1; subst e2
  have := lift (n := n) (wrTc (x := H.x) (k := k) (s := s) hP ht) [(1, i), (2, a), (3, b), (4, c)] rfl rfl rfl (by omega) rfl rfl
    ⟨sub_wr rfl p1 q1 hi rfl, sub_wr rfl p2 q2 ha rfl, sub_wr rfl p3 q3 hb rfl, sub_wr rfl p4 q4 hc rfl, trivial⟩
    (by simp [devK, devL, apartB, apart1, rn, lk, n1, n2, n3, n4, n5, n6, Ne.symm n1, Ne.symm n2, Ne.symm n3, Ne.symm n4, Ne.symm n5, Ne.symm n6]) (by simp [devK, devL, wrNZ, rn, lk]; omega) (by omega)
  exact this
theorem baTc {m t : Nat} (hP : Pl d m t) (ht : t < 1000000) :
    SpecAt Tryz.prog nFBarrier [.ptr 1 0] (hp3 d x) 5 (.v (.int .i64 (baT d).1)) ⟨devK (baT d).2, x⟩ 8 := by
  unfold baT
  cases hw : baNo d with
  | some p =>
    obtain ⟨e, d'⟩ := p
    obtain ⟨hP', hr⟩ := hP.bno hw
    refine (baF devC hw).sub ?_
    refine sub_mk [(5, 2), (6, 3), (7, 4)] rfl rfl rfl ?_
    obtain ⟨h1, h2, h3⟩ := hr
    simp only [devK, devB, secB, hp3, tmSub, hpSub, objSub, eqTm, eqHp, rn, lk, SV.ren, SV.renC, SV.renB, SV.renA, ren_ints, ren_strs, ren_pl, ren_svs, SV.v.injEq, Value.int.injEq, Body.ints.injEq, SV.ptr.injEq, SV.sl.injEq, Value.string.injEq, Value.bool.injEq, List.map_cons, List.map_nil, forall_const, Nat.reduceLT, Nat.lt_add_one, imp_self, true_and, and_true, and_self, ob_some, get_mk, lk_cons, ↓reduceIte, Nat.reduceEqDiff, ne_eq, not_true_eq_false, not_false_eq_true, Nat.one_ne_zero, Nat.zero_ne_one, Nat.succ_ne_self, Nat.reduceAdd, Bool.false_eq_true, false_implies, implies_true, reduceCtorEq, h1, h2, h3]
  | none =>
    obtain ⟨h1, h4⟩ := baNo_none hw
    refine (baW devC hP.ok h1 h4 (by decide) rfl).sub ?_
    refine sub_mk [(5, 2), (6, 3), (7, 5)] rfl rfl rfl ?_
    simp only [devK, devB, secB, hp3, tmSub, hpSub, objSub, eqTm, eqHp, rn, lk, SV.ren, SV.renC, SV.renB, SV.renA, ren_ints, ren_strs, ren_pl, ren_svs, SV.v.injEq, Value.int.injEq, Body.ints.injEq, SV.ptr.injEq, SV.sl.injEq, Value.string.injEq, Value.bool.injEq, List.map_cons, List.map_nil, forall_const, Nat.reduceLT, Nat.lt_add_one, imp_self, true_and, and_true, and_self, ob_some, get_mk, lk_cons, ↓reduceIte, Nat.reduceEqDiff, ne_eq, not_true_eq_false, not_false_eq_true, Nat.one_ne_zero, Nat.zero_ne_one, Nat.succ_ne_self, Nat.reduceAdd, Bool.false_eq_true, false_implies, implies_true, reduceCtorEq]
theorem baTS {m t : Nat} (h : DevAt H d i a b c) (hP : Pl d m t) (ht : t < 1000000) (hn : n + 3 ≤ 1000) {e : Int} (hD : baT d = (e, d')) :
    SpecAt Tryz.prog nFBarrier [.ptr i 0] H n (.v (.int .i64 e))
      ⟨(i, some ⟨true, devB d' n (n + 1) (n + 1 + 1)⟩) :: (a, none) :: (b, none) :: (c, none) :: (n, some ⟨true, secB d'.seen⟩) :: (n + 1, some ⟨true, secB d'.safe⟩) :: (n + 1 + 1, some ⟨true, .pl (prow d'.pend)⟩) :: H.l, H.x⟩ (n + 3) := by
  obtain ⟨hi, ha, hb, hc, ⟨p1, p2, p3, p4⟩, ⟨q1, q2, q3, q4⟩, n1, n2, n3, n4, n5, n6⟩ := h
  have e1 : (baT d).1 = e := by rw [hD]
  have e2 : (baT d).2 = d' := by rw [hD]
  subst e1; subst e2
  have := lift (n := n) (baTc (x := H.x) hP ht) [(1, i), (2, a), (3, b), (4, c)] rfl rfl rfl (by omega) rfl rfl
    ⟨sub_wr rfl p1 q1 hi rfl, sub_wr rfl p2 q2 ha rfl, sub_wr rfl p3 q3 hb rfl, sub_wr rfl p4 q4 hc rfl, trivial⟩
    (by simp [devK, devL, apartB, apart1, rn, lk, n1, n2, n3, n4, n5, n6, Ne.symm n1, Ne.symm n2, Ne.symm n3, Ne.symm n4, Ne.symm n5, Ne.symm n6]) (by simp [devK, devL, wrNZ, rn, lk]; omega) (by omega)
  exact this
theorem Pl.mono {k t u : Nat} (h : Pl d k t) (hu : t ≤ u) : Pl d k u := ⟨h.ok, h.len, h.sn, by have := h.st; omega, by have := h.few; omega⟩
end Go.Sx

/- Slots: where they lie, what fits, opening, headers; the steps of a write. -/
set_option linter.unusedVariables false
set_option linter.unusedSimpArgs false
set_option maxRecDepth 100000
namespace Go.Sx
attribute [local go_sem ↓] bind_mk intsB_mk strsB_mk svB_mk fnVC ob_some vc_skip vc_exit vc_ret vc_seq vc_block kSeq_normal kSeq_exit kSeq_ret kBlock_normal kBlock_exit kBlock_ret vc_reg vc_regD vc_cond condK_true condK_false vc_loop kLoop_exit kLoop_ret kRoll_normal kRoll_exit kRoll_ret vcOps_nil vcOps_cons gd_bool gd_undef put_some put_none vcT_fin vcT_pure vcT_act vcT_acts vcT_stop stab_none stab_some stabM_nil stabM_cons stabO_ld stabO_ldn stabO_slP stabO_b2s fldOf_ai fldOf_agg fldOf_ait fldOf_aggt intsOf_nil intsOf_cons strsOf_nil strsOf_cons c_omap ob_if lk_nil lk_cons ev_t ev_k z_mov z_pick z_bin z_binA z_binB z_binP z_un z_r2s z_conv z_s2b z_b2s z_mkM z_luM z_upM z_lenM lenMk_mp lenMk_nil plsOf_v z_delM asM_so plV_v plV_agg mpOf_mp mpOf_nil mpUp_mp asM_mp luV_ok luV_v z_allocT aggOf_mk z_boxT z_alloc z_bld z_bldI z_rowI z_rowS z_ld z_ldn z_st z_stn asN_ptr asN_fn z_nilck z_fld z_fadr z_idxA z_idxP z_idxS z_idxV z_slS z_slL z_slP z_mk z_lenS z_lenL z_app appC_ints appC_pl appC_sv appC_strs isS_strs loose_ints loose_pl loose_sv z_slM z_callv callvK_fn callvK_f callvK_yl vc_rangeF rfEnd_eq rfGo_none rfGo_ret rfGo_exit yGo_mk yEnd_n yEnd_r yEnd_e yRdy_mk yMid_n putPs_nil putPs_cons leaf_v leaf_ptr leaf_sl leaf_yl leaf_mp z_appS z_appST z_appZ z_cpyS z_mkfn reps_int reps_str z_rowV z_slnil nilK_zero z_cpy z_call asT_tup z_extT z_box boxOf_ai boxOf_agg boxOf_int boxOf_str boxOf_bool boxOf_ptr boxOf_sl sbin_int sbin_str sbinA_mk ae_nil ae_int ae_str sbinB_mk sbinP_nn sbinP_pn sbinP_np i_add i_sub i_mul i_quo i_rem i_and i_or i_xor i_andNot i_shl i_shr i_eql i_neq i_lss i_leq i_gtr i_geq st_add st_eql st_neq st_lss st_leq st_gtr st_geq bo_eql bo_neq pt_eql pt_neq un_neg un_xor un_not asI_mk asB_mk asS_mk asP_mk asSl_mk asBy_mk bnd_none bnd_some get_mk hput_mk hdel_mk kill_eq wrOf_eq rowOf_eq rsvs_0 rsvs_1 rsvs_2 rsvs_3 rsv_t rsv_c1 rsv_cn nt_v nt_ptr nt_sl nt_agg nt_ai get_ints get_strs get_pl get_sv getN_ints getN_sv set_ints set_strs set_sv setN_ints setN_sv part_ints part_strs part_sv cat_ints cat_strs cat_sv over_ints over_strs over_sv ones_ints ones_strs evs_nil evs_cons condK_eqt condK_eqf det_callP V_ns V_nn V_gs V_gn obC_mk fresh_ev freshT_ev freshR_ev setN_plagg setN_intsv setN_svai setN_svagg over_intsv set_pl setN_pl setN_plai getN_pl getN_strs part_pl cat_pl over_pl over_plints z_mm
attribute [local go_sem] initTm ne_eq not_true_eq_false not_false_eq_true true_and and_true List.length_cons List.length_nil Int.toNat_natCast Nat.add_zero Nat.zero_add Nat.mul_one List.getElem?_cons_zero List.drop_zero List.take_length List.take_succ_cons List.take_zero List.take_nil List.drop_succ_cons Option.map_some Nat.le_refl implies_true List.getElem?_cons_succ decide_true decide_false Bool.not_true Bool.not_false beq_self_eq_true Nat.succ_ne_self Nat.one_ne_zero Nat.zero_ne_one vk_mk hk_mk nk_mk tok_eq plsOf_map intsOf_map bodyOf_pl bodyOf_ints bodyOf_strs bodyOf_sv part_aggv part_agg part_ai part_int part_str part_bool part_sl part_ptr part_nil numsOf_map u_int u_str u_bool u_pnil u_sl u_ptr u_oci u_ocs evq_nil evq_cons fillS_nil fillS_cons u_ocb ones_pl cells_sv cells_ints cells_strs cells_pl smms_nil smms_cons smm_min smm_max plsOf_nil List.nil_append List.all_cons List.all_nil Bool.and_self Bool.true_and Bool.and_true zws_len zw_len zi_len List.set_cons_zero List.set_cons_succ List.flatMap_cons List.flatMap_nil List.append_nil
attribute [local go_sem_proc] Nat.reduceEqDiff Nat.reduceAdd Nat.reduceMul Nat.reduceLT Nat.reduceLeDiff Nat.reduceSub Int.reduceToNat Int.reduceLE Int.reduceLT reduceCtorEq Int.reduceEq Int.reduceGT Int.reduceGE Int.reduceNeg
attribute [local go_sem_proc ↓] reduceIte
section
open Go.Proofs
namespace Sl
variable {H : Hp} {n : Nat} {x : Nat → Option SO} {d d' : Fd} {i a b c : Nat} {u1 u2 u3 : Bool}
def slB (D bs r : Nat) : Body := .sv [.ptr D 0, .v (.int .i64 bs), .v (.int .i64 r)]
def slOK (slot : Int) : Bool := decide (slot = 0 ∨ slot = 1)
def atV (bs r : Nat) (slot : Int) : Int := if slot = 1 then bs + (1 + r) else if slot = 0 then bs else 0
theorem satS {D bs r : Nat} {slot : Int} {w : Bool} (hg : H.get i = some ⟨w, slB D bs r⟩) (hb : bs ≤ 4096) (hr : r ≤ 128) :
    SpecAt Tryz.prog nSAt [.ptr i 0, .v (.int .i64 slot)] H n (.tup [.v (.int .i64 (atV bs r slot)), .v (.bool (slOK slot))]) H n := okT.pure tSAt (by
  unfold mSAt
  unfold slB at hg
  simp -implicitDefEqProofs only [↓fnVC, initTm]
  by_cases h0 : slot = 0
  · subst h0
    have w1 : IntKind.i64.wrap (1 + (r : Int)) = 1 + (r : Int) := wrap_i64 (by omega) (by omega)
    have w2 : IntKind.i64.wrap (0 * (1 + (r : Int))) = 0 := by rw [Int.zero_mul]; rfl
    have w3 : IntKind.i64.wrap ((bs : Int) + 0) = bs := by rw [Int.add_zero]; exact wrap_i64 (by omega) (by omega)
    simp -implicitDefEqProofs only [go_sem, hg, w1, w2, w3]
    rfl
  by_cases h1 : slot = 1
  · subst h1
    have w1 : IntKind.i64.wrap (1 + (r : Int)) = 1 + (r : Int) := wrap_i64 (by omega) (by omega)
    have w2 : IntKind.i64.wrap (1 * (1 + (r : Int))) = 1 + r := by rw [Int.one_mul]; exact w1
    have w3 : IntKind.i64.wrap ((bs : Int) + (1 + r)) = bs + (1 + r) := wrap_i64 (by omega) (by omega)
    simp -implicitDefEqProofs only [go_sem, hg, w1, w2, w3]
    rfl
  · have e1 : slOK slot = false := decide_eq_false (by omega)
    have e2 : atV bs r slot = 0 := by unfold atV; rw [if_neg h1, if_neg h0]
    rw [e1, e2]
    by_cases h2 : slot < 0
    · have a1 := decide_eq_true h2
      simp -implicitDefEqProofs only [go_sem, hg, a1]
    · have a1 := decide_eq_false h2
      have a2 : decide (slot > 1) = true := decide_eq_true (by omega)
      simp -implicitDefEqProofs only [go_sem, hg, a1, a2])
def fitB (r : Nat) (k : Int) : Bool := decide (k ≤ 8192 ∧ k ≤ r * 64)
theorem fitsS {D bs r : Nat} {k : Int} {w : Bool} (hg : H.get i = some ⟨w, slB D bs r⟩) (hr : r ≤ 128) :
    SpecAt Tryz.prog nSFits [.ptr i 0, .v (.int .i64 k)] H n (.v (.bool (fitB r k))) H n := okT.pure tSFits (by
  unfold mSFits
  unfold slB at hg
  have w1 : IntKind.i64.wrap ((r : Int) * 64) = r * 64 := wrap_i64 (by omega) (by omega)
  simp -implicitDefEqProofs only [↓fnVC, initTm]
  by_cases h0 : k ≤ 8192
  · have a0 := decide_eq_true h0
    have e1 : fitB r k = decide (k ≤ (r : Int) * 64) := by unfold fitB; simp [h0]
    rw [e1]
    simp -implicitDefEqProofs only [go_sem, hg, a0, w1]
  · have a0 := decide_eq_false h0
    have e1 : fitB r k = false := decide_eq_false (by omega)
    rw [e1]
    simp -implicitDefEqProofs only [go_sem, hg, a0])
def opP (m : Nat) (bs r : Int) : Prop := 0 ≤ bs ∧ 1 ≤ r ∧ r ≤ 128 ∧ bs + 2 * (1 + r) ≤ m
instance {m : Nat} {bs r : Int} : Decidable (opP m bs r) := by unfold opP; infer_instance
theorem openW {bs r : Nat} (hl : d.seen.length ≤ 4096) (hP : opP d.seen.length bs r) (ho : d.off = false) :
    fnVC CT mSOpen [.ptr 1 0, .v (.int .i64 bs), .v (.int .i64 r)] (hp3 d x) 5 fun v H' n' => Sub 5 ⟨[(0, .tup [.ptr 5 0, .v (.int .i64 0)])], ⟨devL d 1 2 3 4 [(5, some ⟨true, slB 1 bs r⟩)], x⟩, 6⟩ ⟨[(0, v)], H', n'⟩ := by
  unfold mSOpen
  unfold opP at hP
  have a0 : decide ((bs : Int) < 0) = false := decide_eq_false (by omega)
  have a1 : decide ((r : Int) < 1) = false := decide_eq_false (by omega)
  have a2 : decide ((r : Int) > 128) = false := decide_eq_false (by omega)
  have w1 : IntKind.i64.wrap (1 + (r : Int)) = 1 + r := wrap_i64 (by omega) (by omega)
  have w2 : IntKind.i64.wrap (2 * (1 + (r : Int))) = 2 * (1 + r) := wrap_i64 (by omega) (by omega)
  have w3 : IntKind.i64.wrap ((d.seen.length : Int) - 2 * (1 + r)) = (d.seen.length : Int) - 2 * (1 + r) := wrap_i64 (by omega) (by omega)
  have a3 : decide ((bs : Int) > (d.seen.length : Int) - 2 * (1 + r)) = false := decide_eq_false (by omega)
  unfold hp3
  simp -implicitDefEqProofs only [↓fnVC, initTm]
  simp -implicitDefEqProofs only [go_sem, a0, a1, a2]
  refine at_call tFSectors (seS (d := d) (a := 2) (b := 3) (c := 4) (by rfl)) ?_
  simp -implicitDefEqProofs only [go_sem, w1, w2, w3, a3]
  refine at_call tFOff (offS (d := d) (a := 2) (b := 3) (c := 4) (by rfl)) ?_
  simp -implicitDefEqProofs only [go_sem, ho]
  refine sub_mk [] rfl rfl rfl ?_
  simp only [tmSub, hpSub, objSub, eqTm, eqHp, rn, lk, SV.ren, SV.renC, SV.renB, SV.renA, ren_ints, ren_strs, ren_pl, ren_svs, SV.v.injEq, Value.int.injEq, Body.ints.injEq, SV.ptr.injEq, SV.sl.injEq, Value.string.injEq, Value.bool.injEq, List.map_cons, List.map_nil, forall_const, Nat.reduceLT, Nat.lt_add_one, imp_self, true_and, and_true, and_self, ob_some, get_mk, lk_cons, ↓reduceIte, Nat.reduceEqDiff, ne_eq, not_true_eq_false, not_false_eq_true, Nat.one_ne_zero, Nat.zero_ne_one, Nat.succ_ne_self, Nat.reduceAdd, Bool.false_eq_true, false_implies, implies_true, reduceCtorEq, slB, devB, devL, secB]
  rfl
theorem openS {bs r : Nat} (h : DevAt H d i a b c) (hl : d.seen.length ≤ 4096) (hP : opP d.seen.length bs r) (ho : d.off = false) (hn : n < 1000) :
    SpecAt Tryz.prog nSOpen [.ptr i 0, .v (.int .i64 bs), .v (.int .i64 r)] H n (.tup [.ptr n 0, .v (.int .i64 0)]) ⟨devL d i a b c ((n, some ⟨true, slB i bs r⟩) :: H.l), H.x⟩ (n + 1) := by
  obtain ⟨hi, ha, hb, hc, ⟨p1, p2, p3, p4⟩, ⟨q1, q2, q3, q4⟩, n1, n2, n3, n4, n5, n6⟩ := h
  have := lift (n := n) (okT.spec tSOpen (openW (x := H.x) hl hP ho)) [(1, i), (2, a), (3, b), (4, c)] rfl rfl rfl (by omega) rfl rfl
    ⟨sub_wr rfl p1 q1 hi rfl, sub_wr rfl p2 q2 ha rfl, sub_wr rfl p3 q3 hb rfl, sub_wr rfl p4 q4 hc rfl, trivial⟩
    (by simp [apartB, apart1, rn, lk, n1, n2, n3, n4, n5, n6, Ne.symm n1, Ne.symm n2, Ne.symm n3, Ne.symm n4, Ne.symm n5, Ne.symm n6]) (by simp [wrNZ, rn, lk]; omega) (by omega)
  exact this
def hdrL (v : Nat) (I : ByteArray) : List Int := be v 1 ++ be I.size 4 ++ bts (sha (bts I)) ++ be v 1
def hdrT (v : Nat) (I : ByteArray) : ByteArray := tx (hdrL v I)
theorem hdr_size {v : Nat} {I : ByteArray} : (hdrT v I).size = 38 := by
  unfold hdrT hdrL
  simp only [tx_sz, List.length_append, be_len, bts_len, sha_size]
theorem sum1S {i : Nat} {s : ByteArray} (hr : rowAt H i (.strs []) = some (.strs [s])) (hs : s.size ≤ 1073741824) : SpecAt Tryz.prog 102 [.sl i 0 1 1] H n (.v (.string (sha (bts s)))) H n := by
  have hc : catb (([s].drop 0).take 1) = bts s := by simp [catb]
  have hk := sumS (n := n) (o := 0) (m := 1) hr (by show 0 + 1 ≤ 1; decide) (by decide) (by rw [hc, bts_len]; omega)
  rw [hc] at hk
  exact hk
end Sl
end
end Go.Sx