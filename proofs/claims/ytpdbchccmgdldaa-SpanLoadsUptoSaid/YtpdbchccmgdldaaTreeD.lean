/- Trees, at this program. -/
import Derived.Test.YtpdbchccmgdldaaTree

set_option linter.unusedVariables false
set_option linter.unusedSimpArgs false
set_option maxRecDepth 100000
namespace Go.Sx
attribute [local go_sem ↓] bind_mk intsB_mk strsB_mk svB_mk fnVC ob_some vc_skip vc_exit vc_ret vc_seq vc_block kSeq_normal kSeq_exit kSeq_ret kBlock_normal kBlock_exit kBlock_ret vc_reg vc_regD vc_cond condK_true condK_false vc_loop kLoop_exit kLoop_ret kRoll_normal kRoll_exit kRoll_ret vcOps_nil vcOps_cons gd_bool gd_undef put_some put_none vcT_fin vcT_pure vcT_act vcT_acts vcT_stop stab_none stab_some stabM_nil stabM_cons stabO_ld stabO_ldn stabO_slP stabO_b2s fldOf_ai fldOf_agg fldOf_ait fldOf_aggt intsOf_nil intsOf_cons strsOf_nil strsOf_cons c_omap ob_if lk_nil lk_cons ev_t ev_k z_mov z_pick z_bin z_binB z_binP z_un z_r2s z_conv z_s2b z_b2s z_alloc z_bld z_bldI z_rowI z_rowS z_ld z_ldn z_st z_stn asN_ptr asN_fn z_nilck z_fld z_fadr z_idxA z_idxP z_idxS z_idxV z_slS z_slL z_slP z_mk z_lenS z_lenL z_app appC_ints appC_pl appC_sv appC_strs isS_strs loose_ints loose_pl loose_sv z_slM z_callv callvK_fn callvK_f callvK_yl vc_rangeF rfEnd_eq rfGo_none rfGo_ret rfGo_exit yGo_mk yEnd_n yEnd_r yEnd_e yRdy_mk yMid_n putPs_nil putPs_cons leaf_v leaf_ptr leaf_sl leaf_yl leaf_mp z_appS z_appZ z_cpyS z_mkfn reps_int reps_str z_rowV z_slnil nilK_zero z_cpy z_call asT_tup z_extT z_box boxOf_ai boxOf_agg boxOf_int boxOf_str boxOf_bool boxOf_ptr boxOf_sl sbin_int sbin_str sbinB_mk sbinP_nn sbinP_pn sbinP_np i_add i_sub i_mul i_quo i_rem i_and i_or i_xor i_andNot i_shl i_shr i_eql i_neq i_lss i_leq i_gtr i_geq st_add st_eql st_neq st_lss st_leq st_gtr st_geq bo_eql bo_neq pt_eql pt_neq un_neg un_xor un_not asI_mk asB_mk asS_mk asP_mk asSl_mk asBy_mk bnd_none bnd_some get_mk hput_mk hdel_mk kill_eq wrOf_eq rowOf_eq rsvs_0 rsvs_1 rsvs_2 rsvs_3 rsv_t rsv_c1 rsv_cn nt_v nt_ptr nt_sl nt_agg nt_ai get_ints get_strs get_pl get_sv getN_ints getN_sv set_ints set_strs set_sv setN_ints setN_sv part_ints part_strs part_sv cat_ints cat_strs cat_sv over_ints over_strs over_sv ones_ints ones_strs evs_nil evs_cons condK_eqt condK_eqf det_callP V_ns V_nn V_gs V_gn obC_mk fresh_ev setN_plagg setN_intsv setN_svai setN_svagg over_intsv set_pl setN_pl setN_plai getN_pl getN_strs part_pl cat_pl over_pl over_plints z_mm
attribute [local go_sem] initTm ne_eq not_true_eq_false not_false_eq_true true_and and_true List.length_cons List.length_nil Int.toNat_natCast Nat.add_zero Nat.zero_add Nat.mul_one List.getElem?_cons_zero List.drop_zero List.take_length List.take_succ_cons List.take_zero List.take_nil List.drop_succ_cons Option.map_some Nat.le_refl implies_true List.getElem?_cons_succ decide_true decide_false Bool.not_true Bool.not_false beq_self_eq_true Nat.succ_ne_self Nat.one_ne_zero Nat.zero_ne_one vk_mk hk_mk nk_mk tok_eq plsOf_map intsOf_map bodyOf_pl bodyOf_ints bodyOf_strs bodyOf_sv part_aggv part_agg part_ai part_int part_str part_bool part_sl part_ptr part_nil numsOf_map u_int u_str u_bool u_pnil u_sl u_ptr u_oci u_ocs evq_nil evq_cons fillS_nil fillS_cons u_ocb ones_pl cells_sv cells_ints cells_strs cells_pl smms_nil smms_cons smm_min smm_max plsOf_nil List.nil_append List.all_cons List.all_nil Bool.and_self Bool.true_and Bool.and_true zws_len zw_len zi_len List.set_cons_zero List.set_cons_succ List.flatMap_cons List.flatMap_nil List.append_nil
open Go.Proofs
/-! Trees: a place's proof is held against a root. -/
variable {H : Hp} {n : Nat} {x : Nat → Option SO}

def dep (n : Nat) : Nat := if n < 2 then 0 else Nat.log2 (n - 1) + 1
theorem dep_le {n e : Nat} (h : n ≤ 2 ^ e) : dep n ≤ e := by
  unfold dep
  split
  · omega
  · exact (Nat.log2_lt (by omega)).2 (by omega)
theorem dep_pw {n k : Nat} (h : 2 ≤ n) (hk : k ≤ pw n) : dep k + 1 ≤ dep n := by
  have := dep_le (n := k) (e := Nat.log2 (n - 1)) hk
  unfold dep at this ⊢
  rw [if_neg (show ¬ n < 2 by omega)]; omega
theorem lift_rd {f o m : Nat} {pre post : List Value} {a : Nat} {ss : List ByteArray} {v : SV} (hr : rowAt H a (.strs []) = some (.strs ss))
    (hs : SpecAt Try.prog f (pre.map .v ++ .sl 1 o m 1 :: post.map .v) ⟨[(1, some ⟨false, .strs ss⟩)], H.x⟩ 2 v ⟨[], H.x⟩ 2) :
    SpecAt Try.prog f (pre.map .v ++ .sl a o m 1 :: post.map .v) H n (v.ren [(1, a)]) H n := by
  have := lift (n := n) hs [(1, a)] (by rfl) rfl (by simp [ltT, ltC, ltB, ltA, idOK, Function.comp_def]) (by omega) rfl rfl ⟨rowAt_sub hr rfl ⟨rfl, fun _ h => (by cases h)⟩ rfl, trivial⟩ rfl rfl (by omega)
  have e1 : (pre.map SV.v ++ .sl 1 o m 1 :: post.map SV.v).map (SV.ren [(1, a)]) = pre.map SV.v ++ .sl a o m 1 :: post.map SV.v := by
    simp [SV.ren, SV.renC, SV.renB, SV.renA, rn, lk, Function.comp_def]
  rw [e1] at this
  exact this
theorem sub_ro1 {v : SV} {ss : List ByteArray} (hv : ltT 2 v = true) (hr : v.ren [] = v)  : Sub 2 ⟨[(0, v)], ⟨[], x⟩, 2⟩ ⟨[(0, v)], ⟨[(1, some ⟨false, .strs ss⟩)], x⟩, 2⟩ := by
  refine sub_mk [] rfl rfl (by simp [apartB, wfHp, wfTm, hv]) ?_
  simp only [tmSub, hpSub, objSub, eqTm, eqHp, rn, lk, SV.ren, SV.renC, SV.renB, SV.renA, ren_ints, ren_strs, ren_pl, ren_svs, SV.v.injEq, Value.int.injEq, Body.ints.injEq, SV.ptr.injEq, SV.sl.injEq, Value.string.injEq, Value.bool.injEq, List.map_cons, List.map_nil, forall_const, Nat.reduceLT, Nat.lt_add_one, imp_self, true_and, and_true, and_self, ob_some, get_mk, lk_cons, ↓reduceIte, Nat.reduceEqDiff, ne_eq, not_true_eq_false, not_false_eq_true, Nat.one_ne_zero, Nat.zero_ne_one, Nat.succ_ne_self, Nat.reduceAdd, Bool.false_eq_true, false_implies, implies_true, reduceCtorEq]
  exact hr.symm
/-! Trees: a beginning's proof is held against both roots. -/
variable {H : Hp} {n : Nat} {x : Nat → Option SO}

/-- The steps down to where a beginning ends. -/
def cways (m n : Nat) : List Bool :=
  if h : m < n ∧ 1 ≤ m then (if m ≤ pw n then false :: cways m (pw n) else true :: cways (m - pw n) (n - pw n)) else []
termination_by n
decreasing_by
  · have := pw_le (n := n) (by omega); omega
  · have := pw_pos (n := n); omega
theorem cways_eq {m n : Nat} (h : n ≤ m) : cways m n = [] := by rw [cways, dif_neg (by omega)]
theorem cways_le {m n : Nat} (h : m < n) (h1 : 1 ≤ m) (hk : m ≤ pw n) : cways m n = false :: cways m (pw n) := by rw [cways, dif_pos ⟨h, h1⟩, if_pos hk]
theorem cways_gt {m n : Nat} (h : m < n) (h1 : 1 ≤ m) (hk : ¬ m ≤ pw n) : cways m n = true :: cways (m - pw n) (n - pw n) := by rw [cways, dif_pos ⟨h, h1⟩, if_neg hk]
theorem cways_dep : ∀ {n j : Nat}, (cways j n).length ≤ dep n := by
  intro n
  induction n using Nat.strongRecOn with
  | _ n ih =>
    intro j
    by_cases h : j < n ∧ 1 ≤ j
    · have h0 : 2 ≤ n := by omega
      have h1 := pw_le h0
      have h2 := lt_pw h0
      have h3 := pw_pos (n := n)
      by_cases hi : j ≤ pw n
      · rw [cways_le h.1 h.2 hi, List.length_cons]
        have := ih (pw n) (by omega) (j := j)
        have := dep_pw h0 (Nat.le_refl _)
        omega
      · rw [cways_gt h.1 h.2 hi, List.length_cons]
        have := ih (n - pw n) (by omega) (j := j - pw n)
        have := dep_pw (k := n - pw n) h0 (by omega)
        omega
    · rw [cways, dif_neg h]; simp
theorem cways_len63 {n m : Nat} (h : n < 9223372036854775808) : (cways m n).length ≤ 63 := Nat.le_trans cways_dep (dep_le (by omega))
/-- Up to both roots. -/
def climb2 (a b : ByteArray) : List Bool → List ByteArray → Option (ByteArray × ByteArray)
  | [], _ => some (a, b)
  | _ :: _, [] => none
  | c :: bs, p :: ps => climb2 (if c then nd p a else a) (if c then nd p b else nd b p) bs ps
theorem climb2_snoc : ∀ {bs : List Bool} {a b : ByteArray} {c : Bool} {ps : List ByteArray}, climb2 a b (bs ++ [c]) ps = (climb2 a b bs ps).bind fun r => (ps[bs.length]?).map fun p => (if c then nd p r.1 else r.1, if c then nd p r.2 else nd r.2 p)
  | [], a, b, c, [] => rfl
  | [], a, b, c, p :: ps => rfl
  | d :: bs, a, b, c, [] => rfl
  | d :: bs, a, b, c, p :: ps => by
    show climb2 _ _ (bs ++ [c]) ps = _
    rw [climb2_snoc]
    rfl
theorem climb2_size : ∀ {bs : List Bool} {a b : ByteArray} {r : ByteArray × ByteArray} {ps : List ByteArray}, a.size ≤ 536870000 → b.size ≤ 536870000 → climb2 a b bs ps = some r → r.1.size ≤ 536870000 ∧ r.2.size ≤ 536870000
  | [], a, b, r, ps, ha, hb, hr => by cases hr; exact ⟨ha, hb⟩
  | c :: bs, a, b, r, [], ha, hb, hr => by cases hr
  | c :: bs, a, b, r, p :: ps, ha, hb, hr => climb2_size (bs := bs) (ps := ps) (by split <;> first | exact ha | (rw [nd_size]; decide)) (by split <;> (rw [nd_size]; decide)) hr
theorem climb2_none : ∀ {bs : List Bool} {a b : ByteArray} {ps : List ByteArray}, climb2 a b bs ps = none ↔ ps.length < bs.length
  | [], a, b, ps => by simp [climb2]
  | c :: bs, a, b, [] => by simp [climb2]
  | c :: bs, a, b, p :: ps => by rw [climb2, climb2_none]; simp
def off (e : Bool) : Nat := if e then 0 else 1
def bothR (e : Bool) (old : ByteArray) (w : List Bool) (ps : List ByteArray) : Option (ByteArray × ByteArray) :=
  if e then climb2 old old w ps else match ps with
    | [] => none
    | p :: r => climb2 p p w r
theorem bothR_snoc {e c : Bool} {old : ByteArray} {w : List Bool} {ps : List ByteArray} : bothR e old (w ++ [c]) ps = (bothR e old w ps).bind fun r => (ps[w.length + off e]?).map fun p => (if c then nd p r.1 else r.1, if c then nd p r.2 else nd r.2 p) := by
  unfold bothR off
  cases e with
  | true => exact climb2_snoc
  | false => cases ps with
    | nil => rfl
    | cons p r => exact climb2_snoc
theorem bothR_size {e : Bool} {old : ByteArray} {w : List Bool} {ps : List ByteArray} {r : ByteArray × ByteArray} (ho : old.size ≤ 536870000) (hp : szB ps) (h : bothR e old w ps = some r) : r.1.size ≤ 536870000 ∧ r.2.size ≤ 536870000 := by
  unfold bothR at h
  cases e with
  | true => exact climb2_size ho ho h
  | false => cases ps with
    | nil => cases h
    | cons p ps => exact climb2_size (hp p (by simp)) (hp p (by simp)) h
theorem bothR_none {e : Bool} {old : ByteArray} {w : List Bool} {ps : List ByteArray} : bothR e old w ps = none ↔ ps.length < w.length + off e := by
  unfold bothR off
  cases e with
  | true => exact climb2_none
  | false => cases ps with
    | nil => simp
    | cons p ps => simp only [Bool.false_eq_true, if_false]; rw [climb2_none]; simp
def bothV (e : Bool) (old : ByteArray) (w : List Bool) (ss : List ByteArray) (a o l : Nat) : SV := match bothR e old w ((ss.drop o).take l) with
  | some r => .tup [.v (.string r.1), .v (.string r.2), .sl a (o + (w.length + off e)) (l - (w.length + off e)) 1, .v (.bool true)]
  | none => .tup [.v (.string ⟨#[]⟩), .v (.string ⟨#[]⟩), .sl 0 0 0 1, .v (.bool false)]
theorem bothV_ren {e : Bool} {old : ByteArray} {w : List Bool} {ss : List ByteArray} {a o l : Nat} : (bothV e old w ss 1 o l).ren [(1, a)] = bothV e old w ss a o l := by
  unfold bothV; split <;> rfl
theorem rbothS : ∀ {k a o l j : Nat} {wh : Bool} {old : ByteArray} {ss : List ByteArray} {H : Hp} {n : Nat}, rowAt H a (.strs []) = some (.strs ss) → o + l ≤ ss.length → l ≤ 1048576 → 1 ≤ j → j ≤ k → k < 9223372036854775808 → szB ss → old.size ≤ 536870000 →
    SpecAt Try.prog nrboth [.v (.int .i64 j), .v (.int .i64 k), .v (.bool wh), .v (.string old), .sl a o l 1] H n (bothV (wh && !(cways j k).any id) old (cways j k).reverse ss a o l) H n := by
  intro k
  induction k using Nat.strongRecOn with
  | _ k ih =>
    intro a o l j wh old ss H n hr hol hl hm1 hmk hk hsz hold
    rw [← bothV_ren]
    refine lift_rd (pre := [.int .i64 j, .int .i64 k, .bool wh, .string old]) (post := []) hr ?_
    show SpecAt Try.prog nrboth [.v (.int .i64 j), .v (.int .i64 k), .v (.bool wh), .v (.string old), .sl 1 o l 1] ⟨[(1, some ⟨false, .strs ss⟩)], H.x⟩ 2 _ _ _
    refine okT.spec trboth ?_
    have hsl := seg_len hol
    unfold mrboth
    simp -implicitDefEqProofs only [↓fnVC, initTm]
    simp -implicitDefEqProofs only [go_sem, ↓reduceIte, Nat.reduceEqDiff, Nat.reduceAdd, Nat.reduceMul, Nat.reduceLT, Nat.reduceLeDiff, Nat.reduceSub, Int.reduceToNat, Int.reduceLE, Int.reduceLT, reduceCtorEq, Int.reduceEq, Int.reduceGT, Int.reduceGE, Int.reduceNeg]
    refine condK_bb (fun c => ?_) (fun c => ?_)
    · have c1 : j = k := by have := of_decide_eq_true c; omega
      rw [cways_eq (by omega)]
      simp only [List.any_nil, Bool.not_false, Bool.and_true, List.reverse_nil]
      simp -implicitDefEqProofs only [go_sem, ↓reduceIte, Nat.reduceEqDiff, Nat.reduceAdd, Nat.reduceMul, Nat.reduceLT, Nat.reduceLeDiff, Nat.reduceSub, Int.reduceToNat, Int.reduceLE, Int.reduceLT, reduceCtorEq, Int.reduceEq, Int.reduceGT, Int.reduceGE, Int.reduceNeg, c]
      cases wh with
      | true =>
        simp -implicitDefEqProofs only [go_sem, ↓reduceIte, Nat.reduceEqDiff, Nat.reduceAdd, Nat.reduceMul, Nat.reduceLT, Nat.reduceLeDiff, Nat.reduceSub, Int.reduceToNat, Int.reduceLE, Int.reduceLT, reduceCtorEq, Int.reduceEq, Int.reduceGT, Int.reduceGE, Int.reduceNeg]
        exact sub_ro1 (v := .tup [.v (.string old), .v (.string old), .sl 1 o l 1, .v (.bool true)]) rfl rfl
      | false =>
        simp -implicitDefEqProofs only [go_sem, ↓reduceIte, Nat.reduceEqDiff, Nat.reduceAdd, Nat.reduceMul, Nat.reduceLT, Nat.reduceLeDiff, Nat.reduceSub, Int.reduceToNat, Int.reduceLE, Int.reduceLT, reduceCtorEq, Int.reduceEq, Int.reduceGT, Int.reduceGE, Int.reduceNeg]
        refine condK_bb (fun d => ?_) (fun d => ?_)
        · have d1 : l = 0 := by have := of_decide_eq_true d; omega
          simp -implicitDefEqProofs only [go_sem, ↓reduceIte, Nat.reduceEqDiff, Nat.reduceAdd, Nat.reduceMul, Nat.reduceLT, Nat.reduceLeDiff, Nat.reduceSub, Int.reduceToNat, Int.reduceLE, Int.reduceLT, reduceCtorEq, Int.reduceEq, Int.reduceGT, Int.reduceGE, Int.reduceNeg, d]
          unfold bothV
          rw [bothR_none.2 (by rw [hsl, d1]; decide)]
          exact sub_ro1 rfl rfl
        · have d1 : 0 < l := by have := of_decide_eq_false d; omega
          simp -implicitDefEqProofs only [go_sem, ↓reduceIte, Nat.reduceEqDiff, Nat.reduceAdd, Nat.reduceMul, Nat.reduceLT, Nat.reduceLeDiff, Nat.reduceSub, Int.reduceToNat, Int.reduceLE, Int.reduceLT, reduceCtorEq, Int.reduceEq, Int.reduceGT, Int.reduceGE, Int.reduceNeg, d]
          refine ⟨by omega, by omega, by omega, by omega, by omega, ?_⟩
          unfold bothV bothR
          have e1 : (ss.drop o).take l = ss.getD o .empty :: ((ss.drop o).take l).drop 1 := by
            rw [List.drop_eq_getElem_cons (by omega : o < ss.length), List.getD_eq_getElem?_getD, List.getElem?_eq_getElem (by omega)]
            obtain ⟨l', rfl⟩ : ∃ l', l = l' + 1 := ⟨l - 1, by omega⟩
            rfl
          rw [e1]
          simp -implicitDefEqProofs only [go_sem, ↓reduceIte, Nat.reduceEqDiff, Nat.reduceAdd, Nat.reduceMul, Nat.reduceLT, Nat.reduceLeDiff, Nat.reduceSub, Int.reduceToNat, Int.reduceLE, Int.reduceLT, reduceCtorEq, Int.reduceEq, Int.reduceGT, Int.reduceGE, Int.reduceNeg]
          exact sub_ro1 (v := .tup [.v (.string (ss.getD o .empty)), .v (.string (ss.getD o .empty)), .sl 1 (o + 1) (l - 1) 1, .v (.bool true)]) rfl rfl
    · have c1 : j < k := by have := of_decide_eq_false c; omega
      have h2 : 2 ≤ k := by omega
      have hp := pw_le h2
      have hp1 := pw_pos (n := k)
      simp -implicitDefEqProofs only [go_sem, ↓reduceIte, Nat.reduceEqDiff, Nat.reduceAdd, Nat.reduceMul, Nat.reduceLT, Nat.reduceLeDiff, Nat.reduceSub, Int.reduceToNat, Int.reduceLE, Int.reduceLT, reduceCtorEq, Int.reduceEq, Int.reduceGT, Int.reduceGE, Int.reduceNeg, c]
      refine at_call tpower (powerS h2 (by omega)) ?_
      simp -implicitDefEqProofs only [go_sem, ↓reduceIte, Nat.reduceEqDiff, Nat.reduceAdd, Nat.reduceMul, Nat.reduceLT, Nat.reduceLeDiff, Nat.reduceSub, Int.reduceToNat, Int.reduceLE, Int.reduceLT, reduceCtorEq, Int.reduceEq, Int.reduceGT, Int.reduceGE, Int.reduceNeg]
      refine condK_bb (fun d => ?_) (fun d => ?_)
      · have d1 : j ≤ pw k := by have := of_decide_eq_true d; omega
        simp -implicitDefEqProofs only [go_sem, ↓reduceIte, Nat.reduceEqDiff, Nat.reduceAdd, Nat.reduceMul, Nat.reduceLT, Nat.reduceLeDiff, Nat.reduceSub, Int.reduceToNat, Int.reduceLE, Int.reduceLT, reduceCtorEq, Int.reduceEq, Int.reduceGT, Int.reduceGE, Int.reduceNeg, d]
        refine at_call trboth (ih (pw k) (by omega) (a := 1) (o := o) (l := l) (j := j) (wh := wh) (ss := ss) (by rfl) hol hl (by omega) (by omega) (by omega) hsz hold) ?_
        rw [cways_le c1 hm1 d1, List.reverse_cons]
        rw [show (false :: cways j (pw k)).any id = (cways j (pw k)).any id from rfl]
        generalize (wh && !(cways j (pw k)).any id) = e0
        generalize (cways (j) (pw k)).reverse = w
        unfold bothV
        rw [bothR_snoc]
        cases hc : bothR e0 old w ((ss.drop o).take l) with
        | none =>
          simp only [Option.bind_none]
          simp -implicitDefEqProofs only [go_sem, ↓reduceIte, Nat.reduceEqDiff, Nat.reduceAdd, Nat.reduceMul, Nat.reduceLT, Nat.reduceLeDiff, Nat.reduceSub, Int.reduceToNat, Int.reduceLE, Int.reduceLT, reduceCtorEq, Int.reduceEq, Int.reduceGT, Int.reduceGE, Int.reduceNeg]
          exact sub_ro1 rfl rfl
        | some r =>
          simp only [Option.bind_some]
          have hwl : w.length + off e0 ≤ l := by
            have : ¬ ((ss.drop o).take l).length < w.length + off e0 := fun hh => by rw [bothR_none.2 hh] at hc; cases hc
            rw [hsl] at this; omega
          have z2 := bothR_size hold (szB_take (szB_drop hsz)) hc
          simp -implicitDefEqProofs only [go_sem, ↓reduceIte, Nat.reduceEqDiff, Nat.reduceAdd, Nat.reduceMul, Nat.reduceLT, Nat.reduceLeDiff, Nat.reduceSub, Int.reduceToNat, Int.reduceLE, Int.reduceLT, reduceCtorEq, Int.reduceEq, Int.reduceGT, Int.reduceGE, Int.reduceNeg]
          refine condK_bb (fun e => ?_) (fun e => ?_)
          · have e1 : l = w.length + off e0 := by have := of_decide_eq_true e; omega
            rw [List.getElem?_eq_none (by rw [hsl]; omega)]
            simp -implicitDefEqProofs only [go_sem, ↓reduceIte, Nat.reduceEqDiff, Nat.reduceAdd, Nat.reduceMul, Nat.reduceLT, Nat.reduceLeDiff, Nat.reduceSub, Int.reduceToNat, Int.reduceLE, Int.reduceLT, reduceCtorEq, Int.reduceEq, Int.reduceGT, Int.reduceGE, Int.reduceNeg, e]
            exact sub_ro1 rfl rfl
          · have e1 : w.length + off e0 < l := by have := of_decide_eq_false e; omega
            have e2 : ((ss.drop o).take l)[w.length + off e0]? = some (ss.getD (o + (w.length + off e0)) .empty) := by
              rw [List.getElem?_take, if_pos e1, List.getElem?_drop, List.getD_eq_getElem?_getD, List.getElem?_eq_getElem (by omega)]; rfl
            have z1 : (ss.getD (o + (w.length + off e0)) .empty).size ≤ 536870000 := by
              rw [List.getD_eq_getElem?_getD, List.getElem?_eq_getElem (by omega)]; exact hsz _ (List.getElem_mem _)
            rw [e2, show (w ++ [false]).length + off e0 = w.length + off e0 + 1 by rw [List.length_append, List.length_singleton]; omega]
            simp -implicitDefEqProofs only [go_sem, ↓reduceIte, Nat.reduceEqDiff, Nat.reduceAdd, Nat.reduceMul, Nat.reduceLT, Nat.reduceLeDiff, Nat.reduceSub, Int.reduceToNat, Int.reduceLE, Int.reduceLT, reduceCtorEq, Int.reduceEq, Int.reduceGT, Int.reduceGE, Int.reduceNeg, e, d]
            refine ⟨by omega, by omega, by omega, ?_⟩
            refine at_call trefNode (rnodeS z2.2 z1) ?_
            simp -implicitDefEqProofs only [go_sem, ↓reduceIte, Nat.reduceEqDiff, Nat.reduceAdd, Nat.reduceMul, Nat.reduceLT, Nat.reduceLeDiff, Nat.reduceSub, Int.reduceToNat, Int.reduceLE, Int.reduceLT, reduceCtorEq, Int.reduceEq, Int.reduceGT, Int.reduceGE, Int.reduceNeg]
            exact sub_ro1 (v := .tup [.v (.string (r.1)), .v (.string (nd r.2 (ss.getD (o + (w.length + off e0)) .empty))), .sl 1 (o + (w.length + off e0 + 1)) (l - (w.length + off e0 + 1)) 1, .v (.bool true)]) rfl rfl
      · have d1 : ¬ j ≤ pw k := by have := of_decide_eq_false d; omega
        have w1 : IntKind.i64.wrap ((j : Int) - ((pw k : Nat) : Int)) = ((j - pw k : Nat) : Int) := by rw [wrap_i64 (by omega) (by omega)]; omega
        have w2 : IntKind.i64.wrap ((k : Int) - ((pw k : Nat) : Int)) = ((k - pw k : Nat) : Int) := by rw [wrap_i64 (by omega) (by omega)]; omega
        simp -implicitDefEqProofs only [go_sem, ↓reduceIte, Nat.reduceEqDiff, Nat.reduceAdd, Nat.reduceMul, Nat.reduceLT, Nat.reduceLeDiff, Nat.reduceSub, Int.reduceToNat, Int.reduceLE, Int.reduceLT, reduceCtorEq, Int.reduceEq, Int.reduceGT, Int.reduceGE, Int.reduceNeg, d, w1, w2]
        refine at_call trboth (ih (k - pw k) (by omega) (a := 1) (o := o) (l := l) (j := j - pw k) (wh := false) (ss := ss) (by rfl) hol hl (by omega) (by omega) (by omega) hsz hold) ?_
        rw [cways_gt c1 hm1 d1, List.reverse_cons]
        rw [show (true :: cways (j - pw k) (k - pw k)).any id = true from rfl]
        simp only [Bool.not_true, Bool.and_false, Bool.false_and]
        generalize (cways (j - pw k) (k - pw k)).reverse = w
        unfold bothV
        rw [bothR_snoc]
        cases hc : bothR false old w ((ss.drop o).take l) with
        | none =>
          simp only [Option.bind_none]
          simp -implicitDefEqProofs only [go_sem, ↓reduceIte, Nat.reduceEqDiff, Nat.reduceAdd, Nat.reduceMul, Nat.reduceLT, Nat.reduceLeDiff, Nat.reduceSub, Int.reduceToNat, Int.reduceLE, Int.reduceLT, reduceCtorEq, Int.reduceEq, Int.reduceGT, Int.reduceGE, Int.reduceNeg]
          exact sub_ro1 rfl rfl
        | some r =>
          simp only [Option.bind_some]
          have hwl : w.length + off false ≤ l := by
            have : ¬ ((ss.drop o).take l).length < w.length + off false := fun hh => by rw [bothR_none.2 hh] at hc; cases hc
            rw [hsl] at this; omega
          have z2 := bothR_size hold (szB_take (szB_drop hsz)) hc
          simp -implicitDefEqProofs only [go_sem, ↓reduceIte, Nat.reduceEqDiff, Nat.reduceAdd, Nat.reduceMul, Nat.reduceLT, Nat.reduceLeDiff, Nat.reduceSub, Int.reduceToNat, Int.reduceLE, Int.reduceLT, reduceCtorEq, Int.reduceEq, Int.reduceGT, Int.reduceGE, Int.reduceNeg]
          refine condK_bb (fun e => ?_) (fun e => ?_)
          · have e1 : l = w.length + off false := by have := of_decide_eq_true e; omega
            rw [List.getElem?_eq_none (by rw [hsl]; omega)]
            simp -implicitDefEqProofs only [go_sem, ↓reduceIte, Nat.reduceEqDiff, Nat.reduceAdd, Nat.reduceMul, Nat.reduceLT, Nat.reduceLeDiff, Nat.reduceSub, Int.reduceToNat, Int.reduceLE, Int.reduceLT, reduceCtorEq, Int.reduceEq, Int.reduceGT, Int.reduceGE, Int.reduceNeg, e]
            exact sub_ro1 rfl rfl
          · have e1 : w.length + off false < l := by have := of_decide_eq_false e; omega
            have e2 : ((ss.drop o).take l)[w.length + off false]? = some (ss.getD (o + (w.length + off false)) .empty) := by
              rw [List.getElem?_take, if_pos e1, List.getElem?_drop, List.getD_eq_getElem?_getD, List.getElem?_eq_getElem (by omega)]; rfl
            have z1 : (ss.getD (o + (w.length + off false)) .empty).size ≤ 536870000 := by
              rw [List.getD_eq_getElem?_getD, List.getElem?_eq_getElem (by omega)]; exact hsz _ (List.getElem_mem _)
            rw [e2, show (w ++ [true]).length + off false = w.length + off false + 1 by rw [List.length_append, List.length_singleton]; omega]
            simp -implicitDefEqProofs only [go_sem, ↓reduceIte, Nat.reduceEqDiff, Nat.reduceAdd, Nat.reduceMul, Nat.reduceLT, Nat.reduceLeDiff, Nat.reduceSub, Int.reduceToNat, Int.reduceLE, Int.reduceLT, reduceCtorEq, Int.reduceEq, Int.reduceGT, Int.reduceGE, Int.reduceNeg, e, d]
            refine ⟨by omega, by omega, by omega, by omega, by omega, ?_⟩
            refine at_call trefNode (rnodeS z1 z2.1) ?_
            simp -implicitDefEqProofs only [go_sem, ↓reduceIte, Nat.reduceEqDiff, Nat.reduceAdd, Nat.reduceMul, Nat.reduceLT, Nat.reduceLeDiff, Nat.reduceSub, Int.reduceToNat, Int.reduceLE, Int.reduceLT, reduceCtorEq, Int.reduceEq, Int.reduceGT, Int.reduceGE, Int.reduceNeg]
            refine at_call trefNode (rnodeS z1 z2.2) ?_
            simp -implicitDefEqProofs only [go_sem, ↓reduceIte, Nat.reduceEqDiff, Nat.reduceAdd, Nat.reduceMul, Nat.reduceLT, Nat.reduceLeDiff, Nat.reduceSub, Int.reduceToNat, Int.reduceLE, Int.reduceLT, reduceCtorEq, Int.reduceEq, Int.reduceGT, Int.reduceGE, Int.reduceNeg]
            exact sub_ro1 (v := .tup [.v (.string (nd (ss.getD (o + (w.length + off false)) .empty) r.1)), .v (.string (nd (ss.getD (o + (w.length + off false)) .empty) r.2)), .sl 1 (o + (w.length + off false + 1)) (l - (w.length + off false + 1)) 1, .v (.bool true)]) rfl rfl
/-! Trees: a beginning's proof, by the program. -/
variable {H : Hp} {n : Nat} {x : Nat → Option SO}

def joinB (e : Bool) (old : ByteArray) (w : List Bool) (ps : List ByteArray) (rt : ByteArray) : Bool := match bothR e old w ps with
  | some r => decide (ps.length = w.length + off e) && (seq r.1 old && seq r.2 rt)
  | none => false
def conJ : Bool → Int
  | true => 0
  | false => 11
theorem conJ_t : conJ true = 0 := rfl
theorem conJ_f : conJ false = 11 := rfl
def conV (j k : Int) (l : Nat) (ps : List ByteArray) (old rt : ByteArray) : Int :=
  if j < 0 ∨ k < j then 1 else
  if j = k then (if (l : Int) = 0 ∧ seq old rt = true then 0 else 11) else
  if j = 0 then (if (l : Int) = 0 ∧ seq old (sha []) = true then 0 else 11) else
  conJ (joinB (!(cways j.toNat k.toNat).any id) old (cways j.toNat k.toNat).reverse ps rt)
theorem rconS {a o l : Nat} {j k : Int} {old rt : ByteArray} {ss : List ByteArray} (hr : rowAt H a (.strs []) = some (.strs ss)) (hol : o + l ≤ ss.length) (hl : l ≤ 1048576) (hk : k < 9223372036854775808) (hsz : szB ss) (hold : old.size ≤ 536870000) :
    SpecAt Try.prog nrefConsistent [.v (.int .i64 j), .v (.int .i64 k), .sl a o l 1, .v (.string old), .v (.string rt)] H n (.v (.int .i64 (conV j k l ((ss.drop o).take l) old rt))) H n := okT.pure trefConsistent (by
  have hsl := seg_len hol
  unfold mrefConsistent
  simp -implicitDefEqProofs only [↓fnVC, initTm]
  by_cases h1 : j < 0
  · have a1 := decide_eq_true h1
    simp -implicitDefEqProofs only [go_sem, ↓reduceIte, Nat.reduceEqDiff, Nat.reduceAdd, Nat.reduceMul, Nat.reduceLT, Nat.reduceLeDiff, Nat.reduceSub, Int.reduceToNat, Int.reduceLE, Int.reduceLT, reduceCtorEq, Int.reduceEq, Int.reduceGT, Int.reduceGE, Int.reduceNeg, a1]
    unfold conV; rw [if_pos (.inl h1)]
  have a1 := decide_eq_false h1
  by_cases h2 : k < j
  · have a2 : decide (j > k) = true := decide_eq_true h2
    simp -implicitDefEqProofs only [go_sem, ↓reduceIte, Nat.reduceEqDiff, Nat.reduceAdd, Nat.reduceMul, Nat.reduceLT, Nat.reduceLeDiff, Nat.reduceSub, Int.reduceToNat, Int.reduceLE, Int.reduceLT, reduceCtorEq, Int.reduceEq, Int.reduceGT, Int.reduceGE, Int.reduceNeg, a1, a2]
    unfold conV; rw [if_pos (.inr h2)]
  have a2 : decide (j > k) = false := decide_eq_false h2
  unfold conV
  rw [if_neg (by omega)]
  by_cases h3 : j = k
  · have a3 := decide_eq_true h3
    rw [if_pos h3]
    have a9 : decide (j < k) = false := decide_eq_false (by omega)
    by_cases h6 : j = 0
    · have a6 := decide_eq_true h6
      have a7 : decide (k > 0) = false := decide_eq_false (by omega)
      have a8 : decide (j > 0) = false := decide_eq_false (by omega)
      by_cases h4 : (l : Int) = 0
      · have a4 := decide_eq_true h4
        cases h5 : seq old rt with
        | true => rw [if_pos ⟨h4, rfl⟩]; simp -implicitDefEqProofs only [go_sem, ↓reduceIte, Nat.reduceEqDiff, Nat.reduceAdd, Nat.reduceMul, Nat.reduceLT, Nat.reduceLeDiff, Nat.reduceSub, Int.reduceToNat, Int.reduceLE, Int.reduceLT, reduceCtorEq, Int.reduceEq, Int.reduceGT, Int.reduceGE, Int.reduceNeg, a1, a2, a4, a6, a7, a8, h5]
        | false => rw [if_neg (by simp)]; simp -implicitDefEqProofs only [go_sem, ↓reduceIte, Nat.reduceEqDiff, Nat.reduceAdd, Nat.reduceMul, Nat.reduceLT, Nat.reduceLeDiff, Nat.reduceSub, Int.reduceToNat, Int.reduceLE, Int.reduceLT, reduceCtorEq, Int.reduceEq, Int.reduceGT, Int.reduceGE, Int.reduceNeg, a1, a2, a4, a6, a7, a8, h5]
      · have a4 := decide_eq_false h4
        rw [if_neg (fun h => h4 h.1)]
        simp -implicitDefEqProofs only [go_sem, ↓reduceIte, Nat.reduceEqDiff, Nat.reduceAdd, Nat.reduceMul, Nat.reduceLT, Nat.reduceLeDiff, Nat.reduceSub, Int.reduceToNat, Int.reduceLE, Int.reduceLT, reduceCtorEq, Int.reduceEq, Int.reduceGT, Int.reduceGE, Int.reduceNeg, a1, a2, a4, a6, a7, a8]
    · have a6 := decide_eq_false h6
      have a8 : decide (j > 0) = true := decide_eq_true (by omega)
      by_cases h4 : (l : Int) = 0
      · have a4 := decide_eq_true h4
        cases h5 : seq old rt with
        | true => rw [if_pos ⟨h4, rfl⟩]; simp -implicitDefEqProofs only [go_sem, ↓reduceIte, Nat.reduceEqDiff, Nat.reduceAdd, Nat.reduceMul, Nat.reduceLT, Nat.reduceLeDiff, Nat.reduceSub, Int.reduceToNat, Int.reduceLE, Int.reduceLT, reduceCtorEq, Int.reduceEq, Int.reduceGT, Int.reduceGE, Int.reduceNeg, a1, a2, a4, a6, a8, a9, h5]
        | false => rw [if_neg (by simp)]; simp -implicitDefEqProofs only [go_sem, ↓reduceIte, Nat.reduceEqDiff, Nat.reduceAdd, Nat.reduceMul, Nat.reduceLT, Nat.reduceLeDiff, Nat.reduceSub, Int.reduceToNat, Int.reduceLE, Int.reduceLT, reduceCtorEq, Int.reduceEq, Int.reduceGT, Int.reduceGE, Int.reduceNeg, a1, a2, a4, a6, a8, a9, h5]
      · have a4 := decide_eq_false h4
        rw [if_neg (fun h => h4 h.1)]
        simp -implicitDefEqProofs only [go_sem, ↓reduceIte, Nat.reduceEqDiff, Nat.reduceAdd, Nat.reduceMul, Nat.reduceLT, Nat.reduceLeDiff, Nat.reduceSub, Int.reduceToNat, Int.reduceLE, Int.reduceLT, reduceCtorEq, Int.reduceEq, Int.reduceGT, Int.reduceGE, Int.reduceNeg, a1, a2, a4, a6, a8, a9]
  have a3 := decide_eq_false h3
  rw [if_neg h3]
  by_cases h6 : j = 0
  · have a6 := decide_eq_true h6
    have a7 : decide (k > 0) = true := decide_eq_true (by omega)
    have a8 : decide (j > 0) = false := decide_eq_false (by omega)
    rw [if_pos h6]
    by_cases h4 : (l : Int) = 0
    · have a4 := decide_eq_true h4
      have hfin : ∀ b, seq old rt = b → True := fun _ _ => trivial
      cases h7 : seq old rt with
      | true =>
        simp -implicitDefEqProofs only [go_sem, ↓reduceIte, Nat.reduceEqDiff, Nat.reduceAdd, Nat.reduceMul, Nat.reduceLT, Nat.reduceLeDiff, Nat.reduceSub, Int.reduceToNat, Int.reduceLE, Int.reduceLT, reduceCtorEq, Int.reduceEq, Int.reduceGT, Int.reduceGE, Int.reduceNeg, a1, a2, a4, a6, a7, a8, h7]
        refine at_call t11 (rsumS (ss := []) (o := 0) (m := 0) (i := 0) rfl (by decide) (by decide) (by decide)) ?_
        cases h5 : seq old (sha []) with
        | true =>
          have h5' : seq old (sha (catb [])) = true := h5
          rw [if_pos ⟨h4, rfl⟩]
          simp -implicitDefEqProofs only [go_sem, ↓reduceIte, Nat.reduceEqDiff, Nat.reduceAdd, Nat.reduceMul, Nat.reduceLT, Nat.reduceLeDiff, Nat.reduceSub, Int.reduceToNat, Int.reduceLE, Int.reduceLT, reduceCtorEq, Int.reduceEq, Int.reduceGT, Int.reduceGE, Int.reduceNeg, h5', h5, a8]
        | false =>
          have h5' : seq old (sha (catb [])) = false := h5
          rw [if_neg (by simp)]
          simp -implicitDefEqProofs only [go_sem, ↓reduceIte, Nat.reduceEqDiff, Nat.reduceAdd, Nat.reduceMul, Nat.reduceLT, Nat.reduceLeDiff, Nat.reduceSub, Int.reduceToNat, Int.reduceLE, Int.reduceLT, reduceCtorEq, Int.reduceEq, Int.reduceGT, Int.reduceGE, Int.reduceNeg, h5', h5, a8]
      | false =>
        simp -implicitDefEqProofs only [go_sem, ↓reduceIte, Nat.reduceEqDiff, Nat.reduceAdd, Nat.reduceMul, Nat.reduceLT, Nat.reduceLeDiff, Nat.reduceSub, Int.reduceToNat, Int.reduceLE, Int.reduceLT, reduceCtorEq, Int.reduceEq, Int.reduceGT, Int.reduceGE, Int.reduceNeg, a1, a2, a4, a6, a7, a8, h7]
        refine at_call t11 (rsumS (ss := []) (o := 0) (m := 0) (i := 0) rfl (by decide) (by decide) (by decide)) ?_
        cases h5 : seq old (sha []) with
        | true =>
          have h5' : seq old (sha (catb [])) = true := h5
          rw [if_pos ⟨h4, rfl⟩]
          simp -implicitDefEqProofs only [go_sem, ↓reduceIte, Nat.reduceEqDiff, Nat.reduceAdd, Nat.reduceMul, Nat.reduceLT, Nat.reduceLeDiff, Nat.reduceSub, Int.reduceToNat, Int.reduceLE, Int.reduceLT, reduceCtorEq, Int.reduceEq, Int.reduceGT, Int.reduceGE, Int.reduceNeg, h5', h5, a8]
        | false =>
          have h5' : seq old (sha (catb [])) = false := h5
          rw [if_neg (by simp)]
          simp -implicitDefEqProofs only [go_sem, ↓reduceIte, Nat.reduceEqDiff, Nat.reduceAdd, Nat.reduceMul, Nat.reduceLT, Nat.reduceLeDiff, Nat.reduceSub, Int.reduceToNat, Int.reduceLE, Int.reduceLT, reduceCtorEq, Int.reduceEq, Int.reduceGT, Int.reduceGE, Int.reduceNeg, h5', h5, a8]
    · have a4 := decide_eq_false h4
      rw [if_neg (fun h => h4 h.1)]
      simp -implicitDefEqProofs only [go_sem, ↓reduceIte, Nat.reduceEqDiff, Nat.reduceAdd, Nat.reduceMul, Nat.reduceLT, Nat.reduceLeDiff, Nat.reduceSub, Int.reduceToNat, Int.reduceLE, Int.reduceLT, reduceCtorEq, Int.reduceEq, Int.reduceGT, Int.reduceGE, Int.reduceNeg, a1, a2, a4, a6, a7, a8]
  have a6 := decide_eq_false h6
  have a8 : decide (j > 0) = true := decide_eq_true (by omega)
  have a9 : decide (j < k) = true := decide_eq_true (by omega)
  rw [if_neg h6]
  obtain ⟨j', rfl⟩ : ∃ j' : Nat, j = j' := ⟨j.toNat, by omega⟩
  obtain ⟨k', rfl⟩ : ∃ k' : Nat, k = k' := ⟨k.toNat, by omega⟩
  simp only [Int.toNat_natCast]
  have key : ∀ b : Bool, (b = true ↔ ((l : Int) = 0 ∧ seq old rt = true)) ∨ True := fun _ => Or.inr trivial
  by_cases h4 : (l : Int) = 0
  · have a4 := decide_eq_true h4
    cases h7 : seq old rt with
    | true =>
      simp -implicitDefEqProofs only [go_sem, ↓reduceIte, Nat.reduceEqDiff, Nat.reduceAdd, Nat.reduceMul, Nat.reduceLT, Nat.reduceLeDiff, Nat.reduceSub, Int.reduceToNat, Int.reduceLE, Int.reduceLT, reduceCtorEq, Int.reduceEq, Int.reduceGT, Int.reduceGE, Int.reduceNeg, a1, a2, a4, a6, a8, a9, h7]
      refine at_call trboth (rbothS (wh := true) hr hol hl (by omega) (by omega) (by omega) hsz hold) ?_
      rw [Bool.true_and]
      generalize (!(cways j' k').any id) = e
      generalize (cways j' k').reverse = w
      unfold bothV joinB
      cases hc : bothR e old w ((ss.drop o).take l) with
      | none =>
        simp -implicitDefEqProofs only [go_sem, ↓reduceIte, Nat.reduceEqDiff, Nat.reduceAdd, Nat.reduceMul, Nat.reduceLT, Nat.reduceLeDiff, Nat.reduceSub, Int.reduceToNat, Int.reduceLE, Int.reduceLT, reduceCtorEq, Int.reduceEq, Int.reduceGT, Int.reduceGE, Int.reduceNeg]
        rfl
      | some r =>
        simp only [hsl]
        have hwl : w.length + off e ≤ l := by
          have : ¬ ((ss.drop o).take l).length < w.length + off e := fun hh => by rw [bothR_none.2 hh] at hc; cases hc
          rw [hsl] at this; omega
        by_cases u1 : l = w.length + off e
        · have v1 : decide (((l - (w.length + off e) : Nat) : Int) = 0) = true := decide_eq_true (by omega)
          rw [decide_eq_true u1]
          cases v2 : seq r.1 old with
          | true =>
            cases v3 : seq r.2 rt with
            | true =>
              simp -implicitDefEqProofs only [go_sem, ↓reduceIte, Nat.reduceEqDiff, Nat.reduceAdd, Nat.reduceMul, Nat.reduceLT, Nat.reduceLeDiff, Nat.reduceSub, Int.reduceToNat, Int.reduceLE, Int.reduceLT, reduceCtorEq, Int.reduceEq, Int.reduceGT, Int.reduceGE, Int.reduceNeg, v1, v2, v3]
              rfl
            | false =>
              simp -implicitDefEqProofs only [go_sem, ↓reduceIte, Nat.reduceEqDiff, Nat.reduceAdd, Nat.reduceMul, Nat.reduceLT, Nat.reduceLeDiff, Nat.reduceSub, Int.reduceToNat, Int.reduceLE, Int.reduceLT, reduceCtorEq, Int.reduceEq, Int.reduceGT, Int.reduceGE, Int.reduceNeg, v1, v2, v3]
              rfl
          | false =>
            simp -implicitDefEqProofs only [go_sem, ↓reduceIte, Nat.reduceEqDiff, Nat.reduceAdd, Nat.reduceMul, Nat.reduceLT, Nat.reduceLeDiff, Nat.reduceSub, Int.reduceToNat, Int.reduceLE, Int.reduceLT, reduceCtorEq, Int.reduceEq, Int.reduceGT, Int.reduceGE, Int.reduceNeg, v1, v2]
            rfl
        · have v1 : decide (((l - (w.length + off e) : Nat) : Int) = 0) = false := decide_eq_false (by omega)
          rw [decide_eq_false u1]
          simp -implicitDefEqProofs only [go_sem, ↓reduceIte, Nat.reduceEqDiff, Nat.reduceAdd, Nat.reduceMul, Nat.reduceLT, Nat.reduceLeDiff, Nat.reduceSub, Int.reduceToNat, Int.reduceLE, Int.reduceLT, reduceCtorEq, Int.reduceEq, Int.reduceGT, Int.reduceGE, Int.reduceNeg, v1]
          rfl
    | false =>
      simp -implicitDefEqProofs only [go_sem, ↓reduceIte, Nat.reduceEqDiff, Nat.reduceAdd, Nat.reduceMul, Nat.reduceLT, Nat.reduceLeDiff, Nat.reduceSub, Int.reduceToNat, Int.reduceLE, Int.reduceLT, reduceCtorEq, Int.reduceEq, Int.reduceGT, Int.reduceGE, Int.reduceNeg, a1, a2, a4, a6, a8, a9, h7]
      refine at_call trboth (rbothS (wh := true) hr hol hl (by omega) (by omega) (by omega) hsz hold) ?_
      rw [Bool.true_and]
      generalize (!(cways j' k').any id) = e
      generalize (cways j' k').reverse = w
      unfold bothV joinB
      cases hc : bothR e old w ((ss.drop o).take l) with
      | none =>
        simp -implicitDefEqProofs only [go_sem, ↓reduceIte, Nat.reduceEqDiff, Nat.reduceAdd, Nat.reduceMul, Nat.reduceLT, Nat.reduceLeDiff, Nat.reduceSub, Int.reduceToNat, Int.reduceLE, Int.reduceLT, reduceCtorEq, Int.reduceEq, Int.reduceGT, Int.reduceGE, Int.reduceNeg]
        rfl
      | some r =>
        simp only [hsl]
        have hwl : w.length + off e ≤ l := by
          have : ¬ ((ss.drop o).take l).length < w.length + off e := fun hh => by rw [bothR_none.2 hh] at hc; cases hc
          rw [hsl] at this; omega
        by_cases u1 : l = w.length + off e
        · have v1 : decide (((l - (w.length + off e) : Nat) : Int) = 0) = true := decide_eq_true (by omega)
          rw [decide_eq_true u1]
          cases v2 : seq r.1 old with
          | true =>
            cases v3 : seq r.2 rt with
            | true =>
              simp -implicitDefEqProofs only [go_sem, ↓reduceIte, Nat.reduceEqDiff, Nat.reduceAdd, Nat.reduceMul, Nat.reduceLT, Nat.reduceLeDiff, Nat.reduceSub, Int.reduceToNat, Int.reduceLE, Int.reduceLT, reduceCtorEq, Int.reduceEq, Int.reduceGT, Int.reduceGE, Int.reduceNeg, v1, v2, v3]
              rfl
            | false =>
              simp -implicitDefEqProofs only [go_sem, ↓reduceIte, Nat.reduceEqDiff, Nat.reduceAdd, Nat.reduceMul, Nat.reduceLT, Nat.reduceLeDiff, Nat.reduceSub, Int.reduceToNat, Int.reduceLE, Int.reduceLT, reduceCtorEq, Int.reduceEq, Int.reduceGT, Int.reduceGE, Int.reduceNeg, v1, v2, v3]
              rfl
          | false =>
            simp -implicitDefEqProofs only [go_sem, ↓reduceIte, Nat.reduceEqDiff, Nat.reduceAdd, Nat.reduceMul, Nat.reduceLT, Nat.reduceLeDiff, Nat.reduceSub, Int.reduceToNat, Int.reduceLE, Int.reduceLT, reduceCtorEq, Int.reduceEq, Int.reduceGT, Int.reduceGE, Int.reduceNeg, v1, v2]
            rfl
        · have v1 : decide (((l - (w.length + off e) : Nat) : Int) = 0) = false := decide_eq_false (by omega)
          rw [decide_eq_false u1]
          simp -implicitDefEqProofs only [go_sem, ↓reduceIte, Nat.reduceEqDiff, Nat.reduceAdd, Nat.reduceMul, Nat.reduceLT, Nat.reduceLeDiff, Nat.reduceSub, Int.reduceToNat, Int.reduceLE, Int.reduceLT, reduceCtorEq, Int.reduceEq, Int.reduceGT, Int.reduceGE, Int.reduceNeg, v1]
          rfl
  · have a4 := decide_eq_false h4
    simp -implicitDefEqProofs only [go_sem, ↓reduceIte, Nat.reduceEqDiff, Nat.reduceAdd, Nat.reduceMul, Nat.reduceLT, Nat.reduceLeDiff, Nat.reduceSub, Int.reduceToNat, Int.reduceLE, Int.reduceLT, reduceCtorEq, Int.reduceEq, Int.reduceGT, Int.reduceGE, Int.reduceNeg, a1, a2, a4, a6, a8, a9]
    refine at_call trboth (rbothS (wh := true) hr hol hl (by omega) (by omega) (by omega) hsz hold) ?_
    rw [Bool.true_and]
    generalize (!(cways j' k').any id) = e
    generalize (cways j' k').reverse = w
    unfold bothV joinB
    cases hc : bothR e old w ((ss.drop o).take l) with
    | none =>
      simp -implicitDefEqProofs only [go_sem, ↓reduceIte, Nat.reduceEqDiff, Nat.reduceAdd, Nat.reduceMul, Nat.reduceLT, Nat.reduceLeDiff, Nat.reduceSub, Int.reduceToNat, Int.reduceLE, Int.reduceLT, reduceCtorEq, Int.reduceEq, Int.reduceGT, Int.reduceGE, Int.reduceNeg]
      rfl
    | some r =>
      simp only [hsl]
      have hwl : w.length + off e ≤ l := by
        have : ¬ ((ss.drop o).take l).length < w.length + off e := fun hh => by rw [bothR_none.2 hh] at hc; cases hc
        rw [hsl] at this; omega
      by_cases u1 : l = w.length + off e
      · have v1 : decide (((l - (w.length + off e) : Nat) : Int) = 0) = true := decide_eq_true (by omega)
        rw [decide_eq_true u1]
        cases v2 : seq r.1 old with
        | true =>
          cases v3 : seq r.2 rt with
          | true =>
            simp -implicitDefEqProofs only [go_sem, ↓reduceIte, Nat.reduceEqDiff, Nat.reduceAdd, Nat.reduceMul, Nat.reduceLT, Nat.reduceLeDiff, Nat.reduceSub, Int.reduceToNat, Int.reduceLE, Int.reduceLT, reduceCtorEq, Int.reduceEq, Int.reduceGT, Int.reduceGE, Int.reduceNeg, v1, v2, v3]
            rfl
          | false =>
            simp -implicitDefEqProofs only [go_sem, ↓reduceIte, Nat.reduceEqDiff, Nat.reduceAdd, Nat.reduceMul, Nat.reduceLT, Nat.reduceLeDiff, Nat.reduceSub, Int.reduceToNat, Int.reduceLE, Int.reduceLT, reduceCtorEq, Int.reduceEq, Int.reduceGT, Int.reduceGE, Int.reduceNeg, v1, v2, v3]
            rfl
        | false =>
          simp -implicitDefEqProofs only [go_sem, ↓reduceIte, Nat.reduceEqDiff, Nat.reduceAdd, Nat.reduceMul, Nat.reduceLT, Nat.reduceLeDiff, Nat.reduceSub, Int.reduceToNat, Int.reduceLE, Int.reduceLT, reduceCtorEq, Int.reduceEq, Int.reduceGT, Int.reduceGE, Int.reduceNeg, v1, v2]
          rfl
      · have v1 : decide (((l - (w.length + off e) : Nat) : Int) = 0) = false := decide_eq_false (by omega)
        rw [decide_eq_false u1]
        simp -implicitDefEqProofs only [go_sem, ↓reduceIte, Nat.reduceEqDiff, Nat.reduceAdd, Nat.reduceMul, Nat.reduceLT, Nat.reduceLeDiff, Nat.reduceSub, Int.reduceToNat, Int.reduceLE, Int.reduceLT, reduceCtorEq, Int.reduceEq, Int.reduceGT, Int.reduceGE, Int.reduceNeg, v1]
        rfl)
/-! Trees: the document's examples, leaves, lists that are the same. -/
variable {H : Hp} {n : Nat} {x : Nat → Option SO}

theorem seq_self (s : ByteArray) : seq s s = true := by unfold seq; simp
theorem pw_three : pw 3 = 2 := by decide
theorem root_two {a b : ByteArray} : root [a, b] = nd a b := by
  rw [root_step (l := [a, b]) (Nat.le_refl 2)]
  show nd (root (List.take (pw 2) [a, b])) (root (List.drop (pw 2) [a, b])) = _
  rw [pw_two, List.take_succ_cons, List.take_zero, List.drop_succ_cons, List.drop_zero, root_one, root_one]
theorem root_three {a b c : ByteArray} : root [a, b, c] = nd (nd a b) c := by
  rw [root_step (l := [a, b, c]) (by show 2 ≤ 3; decide)]
  show nd (root (List.take (pw 3) [a, b, c])) (root (List.drop (pw 3) [a, b, c])) = _
  rw [pw_three, List.take_succ_cons, List.take_succ_cons, List.take_zero, List.drop_succ_cons, List.drop_succ_cons, List.drop_zero, root_two, root_one]
theorem lf_size {s : ByteArray} : (lf s).size = 32 := sha_size _
theorem szB_three {a b c : ByteArray} (ha : a.size = 32) (hb : b.size = 32) (hc : c.size = 32) : szB [a, b, c] := by
  intro s hs
  simp only [List.mem_cons, List.not_mem_nil, or_false] at hs
  rcases hs with rfl | rfl | rfl <;> omega
theorem enc_low {i : Nat} (h : i < 79) : Utf8.encode ((48 + i : Nat) : Int) = ⟨#[UInt8.ofNat (48 + i)]⟩ := by
  have hv : Utf8.valid ((48 + i : Nat) : Int) = true := by
    unfold Utf8.valid
    simp only [Bool.or_eq_true, Bool.and_eq_true, decide_eq_true_eq]
    exact .inl ⟨by omega, by omega⟩
  unfold Utf8.encode
  simp only [hv, if_true, Int.toNat_natCast]
  rw [if_pos (by omega)]
/-- Two lists that are the same. -/
theorem sameW {o o' l : Nat} {ss tt : List ByteArray} (h1 : o + l ≤ ss.length) (h2 : o' + l ≤ tt.length) (he : ∀ i, i < l → ss.getD (o + i) .empty = tt.getD (o' + i) .empty) (hl : l ≤ 1048576) :
    fnVC CT mSameTexts [.sl 1 o l 1, .sl 2 o' l 1] ⟨[(1, some ⟨false, .strs ss⟩), (2, some ⟨false, .strs tt⟩)], x⟩ 3 fun v H' n' => Sub 3 ⟨[(0, .v (.bool true))], ⟨[], x⟩, 3⟩ ⟨[(0, v)], H', n'⟩ := by
  unfold mSameTexts
  have g0 : decide ((l : Int) = (l : Int)) = true := decide_eq_true rfl
  simp -implicitDefEqProofs only [↓fnVC, initTm]
  simp -implicitDefEqProofs only [go_sem, ↓reduceIte, Nat.reduceEqDiff, Nat.reduceAdd, Nat.reduceMul, Nat.reduceLT, Nat.reduceLeDiff, Nat.reduceSub, Int.reduceToNat, Int.reduceLE, Int.reduceLT, reduceCtorEq, Int.reduceEq, Int.reduceGT, Int.reduceGE, Int.reduceNeg, g0]
  refine loop_fam (fun (i : Nat) => i ≤ l) (fun i => ⟨[(0, .sl 1 o l 1), (1, .sl 2 o' l 1), (5, .v (.int .i64 i))], ⟨[(1, some ⟨false, .strs ss⟩), (2, some ⟨false, .strs tt⟩)], x⟩, 3⟩) (fun i => l - i) 0 (Nat.zero_le _) ?_ ?_
  · refine sub_mk [] rfl rfl rfl ?_
    simp only [tmSub, hpSub, objSub, eqTm, eqHp, rn, lk, SV.ren, SV.renC, SV.renB, SV.renA, ren_ints, ren_strs, ren_pl, ren_svs, SV.v.injEq, Value.int.injEq, Body.ints.injEq, SV.ptr.injEq, SV.sl.injEq, Value.string.injEq, Value.bool.injEq, List.map_cons, List.map_nil, forall_const, Nat.reduceLT, Nat.lt_add_one, imp_self, true_and, and_true, and_self, ob_some, get_mk, lk_cons, ↓reduceIte, Nat.reduceEqDiff, ne_eq, not_true_eq_false, not_false_eq_true, Nat.one_ne_zero, Nat.zero_ne_one, Nat.succ_ne_self, Nat.reduceAdd, Bool.false_eq_true, false_implies, implies_true, reduceCtorEq]
    rfl
  · intro i hi
    simp -implicitDefEqProofs only [go_sem, ↓reduceIte, Nat.reduceEqDiff, Nat.reduceAdd, Nat.reduceMul, Nat.reduceLT, Nat.reduceLeDiff, Nat.reduceSub, Int.reduceToNat, Int.reduceLE, Int.reduceLT, reduceCtorEq, Int.reduceEq, Int.reduceGT, Int.reduceGE, Int.reduceNeg]
    refine condK_bb (fun c => ?_) (fun c => ?_)
    · have c1 : i < l := by have := of_decide_eq_true c; omega
      have w3 : IntKind.i64.wrap ((i : Int) + 1) = ((i + 1 : Nat) : Int) := by rw [wrap_i64 (by omega) (by omega)]; omega
      have hei := he i c1
      have hq : seq (ss.getD (o + i) .empty) (tt.getD (o' + i) .empty) = true := by rw [hei]; exact seq_self _
      simp -implicitDefEqProofs only [go_sem, ↓reduceIte, Nat.reduceEqDiff, Nat.reduceAdd, Nat.reduceMul, Nat.reduceLT, Nat.reduceLeDiff, Nat.reduceSub, Int.reduceToNat, Int.reduceLE, Int.reduceLT, reduceCtorEq, Int.reduceEq, Int.reduceGT, Int.reduceGE, Int.reduceNeg, c, hq]
      refine ⟨⟨by omega, by omega⟩, by omega, ⟨by omega, by omega⟩, by omega, ?_⟩
      refine kLoop_mk (i + 1) (by omega) (by omega) ?_
      refine sub_mk [] rfl rfl rfl ?_
      simp only [tmSub, hpSub, objSub, eqTm, eqHp, rn, lk, SV.ren, SV.renC, SV.renB, SV.renA, ren_ints, ren_strs, ren_pl, ren_svs, SV.v.injEq, Value.int.injEq, Body.ints.injEq, SV.ptr.injEq, SV.sl.injEq, Value.string.injEq, Value.bool.injEq, List.map_cons, List.map_nil, forall_const, Nat.reduceLT, Nat.lt_add_one, imp_self, true_and, and_true, and_self, ob_some, get_mk, lk_cons, ↓reduceIte, Nat.reduceEqDiff, ne_eq, not_true_eq_false, not_false_eq_true, Nat.one_ne_zero, Nat.zero_ne_one, Nat.succ_ne_self, Nat.reduceAdd, Bool.false_eq_true, false_implies, implies_true, reduceCtorEq, w3]
    · have c1 : i = l := by have := of_decide_eq_false c; omega
      simp -implicitDefEqProofs only [go_sem, ↓reduceIte, Nat.reduceEqDiff, Nat.reduceAdd, Nat.reduceMul, Nat.reduceLT, Nat.reduceLeDiff, Nat.reduceSub, Int.reduceToNat, Int.reduceLE, Int.reduceLT, reduceCtorEq, Int.reduceEq, Int.reduceGT, Int.reduceGE, Int.reduceNeg, c]
      exact sub_val rfl (by decide) (by decide) rfl
/-! Trees: proofs of a beginning. -/
variable {H : Hp} {n : Nat} {x : Nat → Option SO}

/-- The proof of a beginning (m above 0): 'wh' is whether all of it was whole so far. -/
def part (wh : Bool) (m : Nat) (l : List ByteArray) : List ByteArray :=
  if h : m < l.length ∧ 1 ≤ m then (if m ≤ pw l.length then part wh m (l.take (pw l.length)) ++ [root (l.drop (pw l.length))] else part false (m - pw l.length) (l.drop (pw l.length)) ++ [root (l.take (pw l.length))]) else if wh then [] else [root l]
termination_by l.length
decreasing_by
  · have := pw_le (n := l.length) (by omega); rw [List.length_take]; omega
  · have := pw_pos (n := l.length); rw [List.length_drop]; omega
theorem part_eq {wh : Bool} {m : Nat} {l : List ByteArray} (h : l.length ≤ m) : part wh m l = if wh then [] else [root l] := by rw [part, dif_neg (by omega)]
theorem part_le {wh : Bool} {m : Nat} {l : List ByteArray} (h : m < l.length) (h1 : 1 ≤ m) (hk : m ≤ pw l.length) : part wh m l = part wh m (l.take (pw l.length)) ++ [root (l.drop (pw l.length))] := by rw [part, dif_pos ⟨h, h1⟩, if_pos hk]
theorem part_gt {wh : Bool} {m : Nat} {l : List ByteArray} (h : m < l.length) (h1 : 1 ≤ m) (hk : ¬ m ≤ pw l.length) : part wh m l = part false (m - pw l.length) (l.drop (pw l.length)) ++ [root (l.take (pw l.length))] := by rw [part, dif_pos ⟨h, h1⟩, if_neg hk]
theorem part_len : ∀ {k : Nat} {wh : Bool} {j : Nat} {l : List ByteArray}, l.length = k → (part wh j l).length ≤ k + 1 := by
  intro k
  induction k using Nat.strongRecOn with
  | _ k ih =>
    intro wh j l hl
    by_cases h : j < l.length ∧ 1 ≤ j
    · have h1 := pw_le (n := l.length) (by omega)
      have h3 := pw_pos (n := l.length)
      by_cases hi : j ≤ pw l.length
      · rw [part_le h.1 h.2 hi, List.length_append]
        have := ih (pw l.length) (by omega) (wh := wh) (l := l.take (pw l.length)) (j := j) (by rw [List.length_take]; omega)
        simp only [List.length_singleton]; omega
      · rw [part_gt h.1 h.2 hi, List.length_append]
        have := ih (l.length - pw l.length) (by omega) (wh := false) (l := l.drop (pw l.length)) (j := j - pw l.length) (by rw [List.length_drop])
        simp only [List.length_singleton]; omega
    · rw [part, dif_neg h]; split <;> simp
theorem consW {o m : Nat} {j : Nat} {ss : List ByteArray} (hom : o + m ≤ ss.length) (hm : m ≤ 1048576) (hj : j ≤ m) (hj1 : 1 ≤ j) (hsz : szB ((ss.drop o).take m)) :
    fnVC CT mConsistency [.sl 1 o m 1, .v (.int .i64 j)] ⟨[(1, some ⟨false, .strs ss⟩)], x⟩ 2 fun v H' n' => Sub 2 ⟨[(0, .tup [.sl 2 0 (part true j ((ss.drop o).take m)).length 1, .v (.int .i64 0)])], ⟨[(2, some ⟨true, .strs (part true j ((ss.drop o).take m))⟩)], x⟩, 3⟩ ⟨[(0, v)], H', n'⟩ := by
  unfold mConsistency
  have b1 : decide ((j : Int) < 0) = false := decide_eq_false (by omega)
  have b2 : decide ((j : Int) > (m : Int)) = false := decide_eq_false (by omega)
  have b3 : decide ((j : Int) = 0) = false := decide_eq_false (by omega)
  simp -implicitDefEqProofs only [↓fnVC, initTm]
  simp -implicitDefEqProofs only [go_sem, ↓reduceIte, Nat.reduceEqDiff, Nat.reduceAdd, Nat.reduceMul, Nat.reduceLT, Nat.reduceLeDiff, Nat.reduceSub, Int.reduceToNat, Int.reduceLE, Int.reduceLT, reduceCtorEq, Int.reduceEq, Int.reduceGT, Int.reduceGE, Int.reduceNeg, b1, b2, b3]
  generalize hl0 : (ss.drop o).take m = l0 at hsz
  refine loop_fam (fun (q : Nat × Nat × Nat × Bool × List ByteArray) => o ≤ q.1 ∧ q.1 + q.2.1 ≤ ss.length ∧ (1 ≤ q.2.2.1 ∧ q.2.2.1 ≤ q.2.1) ∧ q.2.1 + q.2.2.2.2.length ≤ m ∧ szB ((ss.drop q.1).take q.2.1) ∧ part true j l0 = part q.2.2.2.1 q.2.2.1 ((ss.drop q.1).take q.2.1) ++ q.2.2.2.2.reverse)
    (fun q => ⟨[(0, .sl 1 q.1 q.2.1 1), (1, .v (.int .i64 q.2.2.1)), (6, .sl 2 0 q.2.2.2.2.length 1), (7, .v (.bool q.2.2.2.1))], ⟨[(1, some ⟨false, .strs ss⟩), (2, some ⟨true, .strs q.2.2.2.2⟩)], x⟩, 3⟩) (fun q => q.2.1) (o, m, j, true, []) ⟨by simp, hom, ⟨hj1, hj⟩, by simp, by simpa [hl0] using hsz, by simp [hl0]⟩ ?_ ?_
  · refine sub_mk [(2, 0)] rfl rfl rfl ?_
    simp only [tmSub, hpSub, objSub, eqTm, eqHp, rn, lk, SV.ren, SV.renC, SV.renB, SV.renA, ren_ints, ren_strs, ren_pl, ren_svs, SV.v.injEq, Value.int.injEq, Body.ints.injEq, SV.ptr.injEq, SV.sl.injEq, Value.string.injEq, Value.bool.injEq, List.map_cons, List.map_nil, forall_const, Nat.reduceLT, Nat.lt_add_one, imp_self, true_and, and_true, and_self, ob_some, get_mk, lk_cons, ↓reduceIte, Nat.reduceEqDiff, ne_eq, not_true_eq_false, not_false_eq_true, Nat.one_ne_zero, Nat.zero_ne_one, Nat.succ_ne_self, Nat.reduceAdd, Bool.false_eq_true, false_implies, implies_true, reduceCtorEq]
    exact ⟨rfl, rfl⟩
  · rintro ⟨o', m', j', wh, p⟩ ⟨ho, hb, ⟨hj1', hj'⟩, hpm, hz, he⟩
    simp only at ho hb hj1' hj' hpm hz he
    have hl := seg_len hb
    simp -implicitDefEqProofs only [go_sem, ↓reduceIte, Nat.reduceEqDiff, Nat.reduceAdd, Nat.reduceMul, Nat.reduceLT, Nat.reduceLeDiff, Nat.reduceSub, Int.reduceToNat, Int.reduceLE, Int.reduceLT, reduceCtorEq, Int.reduceEq, Int.reduceGT, Int.reduceGE, Int.reduceNeg]
    refine condK_bb (fun c => ?_) (fun c => ?_)
    · have c0 : j' < m' := by have := of_decide_eq_true c; omega
      have c1 : 2 ≤ m' := by omega
      have hp := pw_le c1
      have hp1 := pw_pos (n := m')
      have z1 : szB ((ss.drop o').take (pw m')) := take_drop_take (show pw m' ≤ m' by omega) ▸ szB_take hz
      have z2 : szB ((ss.drop (o' + pw m')).take (m' - pw m')) := drop_drop_take ▸ szB_drop hz
      simp -implicitDefEqProofs only [go_sem, ↓reduceIte, Nat.reduceEqDiff, Nat.reduceAdd, Nat.reduceMul, Nat.reduceLT, Nat.reduceLeDiff, Nat.reduceSub, Int.reduceToNat, Int.reduceLE, Int.reduceLT, reduceCtorEq, Int.reduceEq, Int.reduceGT, Int.reduceGE, Int.reduceNeg, c]
      refine at_call tcut (cutS c1 (by omega)) ?_
      simp -implicitDefEqProofs only [go_sem, ↓reduceIte, Nat.reduceEqDiff, Nat.reduceAdd, Nat.reduceMul, Nat.reduceLT, Nat.reduceLeDiff, Nat.reduceSub, Int.reduceToNat, Int.reduceLE, Int.reduceLT, reduceCtorEq, Int.reduceEq, Int.reduceGT, Int.reduceGE, Int.reduceNeg]
      refine condK_bb (fun d => ?_) (fun d => ?_)
      · have d1 : j' ≤ pw m' := by have := of_decide_eq_true d; omega
        simp -implicitDefEqProofs only [go_sem, ↓reduceIte, Nat.reduceEqDiff, Nat.reduceAdd, Nat.reduceMul, Nat.reduceLT, Nat.reduceLeDiff, Nat.reduceSub, Int.reduceToNat, Int.reduceLE, Int.reduceLT, reduceCtorEq, Int.reduceEq, Int.reduceGT, Int.reduceGE, Int.reduceNeg, d]
        refine ⟨⟨by omega, by omega, by omega⟩, ?_⟩
        refine at_call tRoot (rootS (ss := ss) (by rfl) (by omega) (by omega) z2) ?_
        simp -implicitDefEqProofs only [go_sem, ↓reduceIte, Nat.reduceEqDiff, Nat.reduceAdd, Nat.reduceMul, Nat.reduceLT, Nat.reduceLeDiff, Nat.reduceSub, Int.reduceToNat, Int.reduceLE, Int.reduceLT, reduceCtorEq, Int.reduceEq, Int.reduceGT, Int.reduceGE, Int.reduceNeg]
        refine ⟨by omega, by omega, app_kill ?_⟩
        simp -implicitDefEqProofs only [go_sem, ↓reduceIte, Nat.reduceEqDiff, Nat.reduceAdd, Nat.reduceMul, Nat.reduceLT, Nat.reduceLeDiff, Nat.reduceSub, Int.reduceToNat, Int.reduceLE, Int.reduceLT, reduceCtorEq, Int.reduceEq, Int.reduceGT, Int.reduceGE, Int.reduceNeg, app_seg]
        refine ⟨⟨by omega, by omega⟩, ?_⟩
        refine kLoop_mk (o', pw m', j', wh, p ++ [root ((ss.drop (o' + pw m')).take (m' - pw m'))]) ⟨ho, by simp only; omega, ⟨hj1', d1⟩, by simp only [List.length_append, List.length_singleton]; omega, z1, ?_⟩ (by simp only; omega) ?_
        · simp only
          rw [he, part_le (by rw [hl]; exact c0) hj1' (by rw [hl]; exact d1), hl, take_drop_take (by omega), drop_drop_take, List.reverse_append, List.append_assoc]; rfl
        · refine sub_mk [(2, 4)] rfl rfl rfl ?_
          simp only [tmSub, hpSub, objSub, eqTm, eqHp, rn, lk, SV.ren, SV.renC, SV.renB, SV.renA, ren_ints, ren_strs, ren_pl, ren_svs, SV.v.injEq, Value.int.injEq, Body.ints.injEq, SV.ptr.injEq, SV.sl.injEq, Value.string.injEq, Value.bool.injEq, List.map_cons, List.map_nil, forall_const, Nat.reduceLT, Nat.lt_add_one, imp_self, true_and, and_true, and_self, ob_some, get_mk, lk_cons, ↓reduceIte, Nat.reduceEqDiff, ne_eq, not_true_eq_false, not_false_eq_true, Nat.one_ne_zero, Nat.zero_ne_one, Nat.succ_ne_self, Nat.reduceAdd, Bool.false_eq_true, false_implies, implies_true, reduceCtorEq, List.length_append, List.length_singleton, Nat.sub_zero]
      · have d1 : ¬ j' ≤ pw m' := by have := of_decide_eq_false d; omega
        have w1 : IntKind.i64.wrap ((j' : Int) - ((pw m' : Nat) : Int)) = ((j' - pw m' : Nat) : Int) := by rw [wrap_i64 (by omega) (by omega)]; omega
        simp -implicitDefEqProofs only [go_sem, ↓reduceIte, Nat.reduceEqDiff, Nat.reduceAdd, Nat.reduceMul, Nat.reduceLT, Nat.reduceLeDiff, Nat.reduceSub, Int.reduceToNat, Int.reduceLE, Int.reduceLT, reduceCtorEq, Int.reduceEq, Int.reduceGT, Int.reduceGE, Int.reduceNeg, d, Nat.sub_zero]
        refine ⟨⟨by omega, by omega⟩, ?_⟩
        refine at_call tRoot (rootS (ss := ss) (by rfl) (by omega) (by omega) z1) ?_
        simp -implicitDefEqProofs only [go_sem, ↓reduceIte, Nat.reduceEqDiff, Nat.reduceAdd, Nat.reduceMul, Nat.reduceLT, Nat.reduceLeDiff, Nat.reduceSub, Int.reduceToNat, Int.reduceLE, Int.reduceLT, reduceCtorEq, Int.reduceEq, Int.reduceGT, Int.reduceGE, Int.reduceNeg, Nat.sub_zero]
        refine ⟨by omega, by omega, app_kill ?_⟩
        simp -implicitDefEqProofs only [go_sem, ↓reduceIte, Nat.reduceEqDiff, Nat.reduceAdd, Nat.reduceMul, Nat.reduceLT, Nat.reduceLeDiff, Nat.reduceSub, Int.reduceToNat, Int.reduceLE, Int.reduceLT, reduceCtorEq, Int.reduceEq, Int.reduceGT, Int.reduceGE, Int.reduceNeg, app_seg, w1]
        refine ⟨⟨by omega, by omega, by omega⟩, ?_⟩
        refine kLoop_mk (o' + pw m', m' - pw m', j' - pw m', false, p ++ [root ((ss.drop o').take (pw m'))]) ⟨by simp only; omega, by simp only; omega, ⟨by simp only; omega, by simp only; omega⟩, by simp only [List.length_append, List.length_singleton]; omega, z2, ?_⟩ (by simp only; omega) ?_
        · simp only
          rw [he, part_gt (by rw [hl]; exact c0) hj1' (by rw [hl]; exact d1), hl, take_drop_take (by omega), drop_drop_take, List.reverse_append, List.append_assoc]; rfl
        · refine sub_mk [(2, 4)] rfl rfl rfl ?_
          simp only [tmSub, hpSub, objSub, eqTm, eqHp, rn, lk, SV.ren, SV.renC, SV.renB, SV.renA, ren_ints, ren_strs, ren_pl, ren_svs, SV.v.injEq, Value.int.injEq, Body.ints.injEq, SV.ptr.injEq, SV.sl.injEq, Value.string.injEq, Value.bool.injEq, List.map_cons, List.map_nil, forall_const, Nat.reduceLT, Nat.lt_add_one, imp_self, true_and, and_true, and_self, ob_some, get_mk, lk_cons, ↓reduceIte, Nat.reduceEqDiff, ne_eq, not_true_eq_false, not_false_eq_true, Nat.one_ne_zero, Nat.zero_ne_one, Nat.succ_ne_self, Nat.reduceAdd, Bool.false_eq_true, false_implies, implies_true, reduceCtorEq, w1, List.length_append, List.length_singleton]
    · have c1 : m' = j' := by have := of_decide_eq_false c; omega
      rw [part_eq (wh := wh) (m := j') (by omega)] at he
      simp -implicitDefEqProofs only [go_sem, ↓reduceIte, Nat.reduceEqDiff, Nat.reduceAdd, Nat.reduceMul, Nat.reduceLT, Nat.reduceLeDiff, Nat.reduceSub, Int.reduceToNat, Int.reduceLE, Int.reduceLT, reduceCtorEq, Int.reduceEq, Int.reduceGT, Int.reduceGE, Int.reduceNeg, c]
      cases wh with
      | true =>
        have e1 : part true j l0 = p.reverse := by rw [he]; rfl
        simp -implicitDefEqProofs only [go_sem, ↓reduceIte, Nat.reduceEqDiff, Nat.reduceAdd, Nat.reduceMul, Nat.reduceLT, Nat.reduceLeDiff, Nat.reduceSub, Int.reduceToNat, Int.reduceLE, Int.reduceLT, reduceCtorEq, Int.reduceEq, Int.reduceGT, Int.reduceGE, Int.reduceNeg]
        refine at_call tReverseS (revS (i := 2) (by rfl) (by decide) (by decide) (by omega)) ?_
        simp -implicitDefEqProofs only [go_sem, ↓reduceIte, Nat.reduceEqDiff, Nat.reduceAdd, Nat.reduceMul, Nat.reduceLT, Nat.reduceLeDiff, Nat.reduceSub, Int.reduceToNat, Int.reduceLE, Int.reduceLT, reduceCtorEq, Int.reduceEq, Int.reduceGT, Int.reduceGE, Int.reduceNeg]
        refine sub_mk [(2, 2)] rfl rfl rfl ?_
        simp only [tmSub, hpSub, objSub, eqTm, eqHp, rn, lk, SV.ren, SV.renC, SV.renB, SV.renA, ren_ints, ren_strs, ren_pl, ren_svs, SV.v.injEq, Value.int.injEq, Body.ints.injEq, SV.ptr.injEq, SV.sl.injEq, Value.string.injEq, Value.bool.injEq, List.map_cons, List.map_nil, forall_const, Nat.reduceLT, Nat.lt_add_one, imp_self, true_and, and_true, and_self, ob_some, get_mk, lk_cons, ↓reduceIte, Nat.reduceEqDiff, ne_eq, not_true_eq_false, not_false_eq_true, Nat.one_ne_zero, Nat.zero_ne_one, Nat.succ_ne_self, Nat.reduceAdd, Bool.false_eq_true, false_implies, implies_true, reduceCtorEq, e1, List.length_reverse]
      | false =>
        have e1 : part true j l0 = (p ++ [root ((ss.drop o').take m')]).reverse := by rw [he]; simp
        simp -implicitDefEqProofs only [go_sem, ↓reduceIte, Nat.reduceEqDiff, Nat.reduceAdd, Nat.reduceMul, Nat.reduceLT, Nat.reduceLeDiff, Nat.reduceSub, Int.reduceToNat, Int.reduceLE, Int.reduceLT, reduceCtorEq, Int.reduceEq, Int.reduceGT, Int.reduceGE, Int.reduceNeg]
        refine at_call tRoot (rootS (ss := ss) (by rfl) (by omega) (by omega) hz) ?_
        simp -implicitDefEqProofs only [go_sem, ↓reduceIte, Nat.reduceEqDiff, Nat.reduceAdd, Nat.reduceMul, Nat.reduceLT, Nat.reduceLeDiff, Nat.reduceSub, Int.reduceToNat, Int.reduceLE, Int.reduceLT, reduceCtorEq, Int.reduceEq, Int.reduceGT, Int.reduceGE, Int.reduceNeg]
        refine ⟨by omega, by omega, app_kill ?_⟩
        simp -implicitDefEqProofs only [go_sem, ↓reduceIte, Nat.reduceEqDiff, Nat.reduceAdd, Nat.reduceMul, Nat.reduceLT, Nat.reduceLeDiff, Nat.reduceSub, Int.reduceToNat, Int.reduceLE, Int.reduceLT, reduceCtorEq, Int.reduceEq, Int.reduceGT, Int.reduceGE, Int.reduceNeg, app_seg]
        have hlen : (p ++ [root ((ss.drop o').take m')]).length = p.length + 1 := by simp
        rw [← hlen]
        refine at_call tReverseS (revS (i := 4) (by rfl) (by decide) (by decide) (by rw [hlen]; omega)) ?_
        simp -implicitDefEqProofs only [go_sem, ↓reduceIte, Nat.reduceEqDiff, Nat.reduceAdd, Nat.reduceMul, Nat.reduceLT, Nat.reduceLeDiff, Nat.reduceSub, Int.reduceToNat, Int.reduceLE, Int.reduceLT, reduceCtorEq, Int.reduceEq, Int.reduceGT, Int.reduceGE, Int.reduceNeg]
        refine sub_mk [(2, 4)] rfl rfl rfl ?_
        simp only [tmSub, hpSub, objSub, eqTm, eqHp, rn, lk, SV.ren, SV.renC, SV.renB, SV.renA, ren_ints, ren_strs, ren_pl, ren_svs, SV.v.injEq, Value.int.injEq, Body.ints.injEq, SV.ptr.injEq, SV.sl.injEq, Value.string.injEq, Value.bool.injEq, List.map_cons, List.map_nil, forall_const, Nat.reduceLT, Nat.lt_add_one, imp_self, true_and, and_true, and_self, ob_some, get_mk, lk_cons, ↓reduceIte, Nat.reduceEqDiff, ne_eq, not_true_eq_false, not_false_eq_true, Nat.one_ne_zero, Nat.zero_ne_one, Nat.succ_ne_self, Nat.reduceAdd, Bool.false_eq_true, false_implies, implies_true, reduceCtorEq, e1, List.length_reverse]
theorem consS {a o m j : Nat} {ss : List ByteArray} (hr : rowAt H a (.strs []) = some (.strs ss)) (hom : o + m ≤ ss.length) (hm : m ≤ 1048576) (hj : j ≤ m) (hj1 : 1 ≤ j) (hsz : szB ((ss.drop o).take m)) (hn : n + 1 ≤ 1000) :
    SpecAt Try.prog nConsistency [.sl a o m 1, .v (.int .i64 j)] H n (.tup [.sl n 0 (part true j ((ss.drop o).take m)).length 1, .v (.int .i64 0)]) ⟨(n, some ⟨true, .strs (part true j ((ss.drop o).take m))⟩) :: H.l, H.x⟩ (n + 1) := by
  have := lift_new (pre := []) (post := [.int .i64 j]) hr hn (okT.spec tConsistency (consW hom hm hj hj1 hsz))
  exact this
theorem consN {o m a : Nat} {j : Int} (h : j < 0 ∨ (m : Int) < j) : SpecAt Try.prog nConsistency [.sl a o m 1, .v (.int .i64 j)] H n (.tup [.sl 0 0 0 1, .v (.int .i64 1)]) H n := okT.pure tConsistency (by
  unfold mConsistency
  simp -implicitDefEqProofs only [↓fnVC, initTm]
  simp -implicitDefEqProofs only [go_sem, ↓reduceIte, Nat.reduceEqDiff, Nat.reduceAdd, Nat.reduceMul, Nat.reduceLT, Nat.reduceLeDiff, Nat.reduceSub, Int.reduceToNat, Int.reduceLE, Int.reduceLT, reduceCtorEq, Int.reduceEq, Int.reduceGT, Int.reduceGE, Int.reduceNeg]
  refine condK_bb (fun c => ?_) (fun c => ?_)
  · simp -implicitDefEqProofs only [go_sem, ↓reduceIte, Nat.reduceEqDiff, Nat.reduceAdd, Nat.reduceMul, Nat.reduceLT, Nat.reduceLeDiff, Nat.reduceSub, Int.reduceToNat, Int.reduceLE, Int.reduceLT, reduceCtorEq, Int.reduceEq, Int.reduceGT, Int.reduceGE, Int.reduceNeg, c]
  · simp -implicitDefEqProofs only [go_sem, ↓reduceIte, Nat.reduceEqDiff, Nat.reduceAdd, Nat.reduceMul, Nat.reduceLT, Nat.reduceLeDiff, Nat.reduceSub, Int.reduceToNat, Int.reduceLE, Int.reduceLT, reduceCtorEq, Int.reduceEq, Int.reduceGT, Int.reduceGE, Int.reduceNeg, c]
    refine condK_bb (fun d => ?_) (fun d => ?_)
    · simp -implicitDefEqProofs only [go_sem, ↓reduceIte, Nat.reduceEqDiff, Nat.reduceAdd, Nat.reduceMul, Nat.reduceLT, Nat.reduceLeDiff, Nat.reduceSub, Int.reduceToNat, Int.reduceLE, Int.reduceLT, reduceCtorEq, Int.reduceEq, Int.reduceGT, Int.reduceGE, Int.reduceNeg, d]
    · have c1 := of_decide_eq_false c
      have d1 := of_decide_eq_false d
      omega)
theorem consZ {o m a : Nat} : SpecAt Try.prog nConsistency [.sl a o m 1, .v (.int .i64 0)] H n (.tup [.sl 0 0 0 1, .v (.int .i64 0)]) H n := okT.pure tConsistency (by
  unfold mConsistency
  have d : decide ((0 : Int) > (m : Int)) = false := decide_eq_false (by omega)
  simp -implicitDefEqProofs only [↓fnVC, initTm]
  simp -implicitDefEqProofs only [go_sem, ↓reduceIte, Nat.reduceEqDiff, Nat.reduceAdd, Nat.reduceMul, Nat.reduceLT, Nat.reduceLeDiff, Nat.reduceSub, Int.reduceToNat, Int.reduceLE, Int.reduceLT, reduceCtorEq, Int.reduceEq, Int.reduceGT, Int.reduceGE, Int.reduceNeg, d])
/-- The document's, by its recursion. -/
theorem rpartS : ∀ {m a o j : Nat} {wh : Bool} {ss : List ByteArray} {H : Hp} {n : Nat}, rowAt H a (.strs []) = some (.strs ss) → o + m ≤ ss.length → m ≤ 1048576 → j ≤ m → 1 ≤ j → szB ((ss.drop o).take m) → n + 1 ≤ 1000 →
    SpecAt Try.prog nrpart [.v (.int .i64 j), .sl a o m 1, .v (.bool wh)] H n (.sl n 0 (part wh j ((ss.drop o).take m)).length 1) ⟨(n, some ⟨true, .strs (part wh j ((ss.drop o).take m))⟩) :: H.l, H.x⟩ (n + 1) := by
  intro m
  induction m using Nat.strongRecOn with
  | _ m ih =>
    intro a o j wh ss H n hr hom hm hj hj1 hsz hn
    refine lift_new (pre := [.int .i64 j]) (post := [.bool wh]) (v := .sl 2 0 (part wh j ((ss.drop o).take m)).length 1) hr hn ?_
    show SpecAt Try.prog nrpart [.v (.int .i64 j), .sl 1 o m 1, .v (.bool wh)] ⟨[(1, some ⟨false, .strs ss⟩)], H.x⟩ 2 _ _ _
    refine okT.spec trpart ?_
    have hl := seg_len hom
    unfold mrpart
    simp -implicitDefEqProofs only [↓fnVC, initTm]
    simp -implicitDefEqProofs only [go_sem, ↓reduceIte, Nat.reduceEqDiff, Nat.reduceAdd, Nat.reduceMul, Nat.reduceLT, Nat.reduceLeDiff, Nat.reduceSub, Int.reduceToNat, Int.reduceLE, Int.reduceLT, reduceCtorEq, Int.reduceEq, Int.reduceGT, Int.reduceGE, Int.reduceNeg]
    refine condK_bb (fun c => ?_) (fun c => ?_)
    · have c1 : j = m := by have := of_decide_eq_true c; omega
      rw [part_eq (by omega)]
      simp -implicitDefEqProofs only [go_sem, ↓reduceIte, Nat.reduceEqDiff, Nat.reduceAdd, Nat.reduceMul, Nat.reduceLT, Nat.reduceLeDiff, Nat.reduceSub, Int.reduceToNat, Int.reduceLE, Int.reduceLT, reduceCtorEq, Int.reduceEq, Int.reduceGT, Int.reduceGE, Int.reduceNeg, c]
      cases wh with
      | true =>
        simp -implicitDefEqProofs only [go_sem, ↓reduceIte, Nat.reduceEqDiff, Nat.reduceAdd, Nat.reduceMul, Nat.reduceLT, Nat.reduceLeDiff, Nat.reduceSub, Int.reduceToNat, Int.reduceLE, Int.reduceLT, reduceCtorEq, Int.reduceEq, Int.reduceGT, Int.reduceGE, Int.reduceNeg]
        refine sub_mk [(2, 0)] rfl rfl rfl ?_
        simp only [tmSub, hpSub, objSub, eqTm, eqHp, rn, lk, SV.ren, SV.renC, SV.renB, SV.renA, ren_ints, ren_strs, ren_pl, ren_svs, SV.v.injEq, Value.int.injEq, Body.ints.injEq, SV.ptr.injEq, SV.sl.injEq, Value.string.injEq, Value.bool.injEq, List.map_cons, List.map_nil, forall_const, Nat.reduceLT, Nat.lt_add_one, imp_self, true_and, and_true, and_self, ob_some, get_mk, lk_cons, ↓reduceIte, Nat.reduceEqDiff, ne_eq, not_true_eq_false, not_false_eq_true, Nat.one_ne_zero, Nat.zero_ne_one, Nat.succ_ne_self, Nat.reduceAdd, Bool.false_eq_true, false_implies, implies_true, reduceCtorEq]
        rfl
      | false =>
        simp -implicitDefEqProofs only [go_sem, ↓reduceIte, Nat.reduceEqDiff, Nat.reduceAdd, Nat.reduceMul, Nat.reduceLT, Nat.reduceLeDiff, Nat.reduceSub, Int.reduceToNat, Int.reduceLE, Int.reduceLT, reduceCtorEq, Int.reduceEq, Int.reduceGT, Int.reduceGE, Int.reduceNeg]
        refine at_call trefRoot (rrootS (ss := ss) (by rfl) (by omega) (by omega) hsz) ?_
        simp -implicitDefEqProofs only [go_sem, ↓reduceIte, Nat.reduceEqDiff, Nat.reduceAdd, Nat.reduceMul, Nat.reduceLT, Nat.reduceLeDiff, Nat.reduceSub, Int.reduceToNat, Int.reduceLE, Int.reduceLT, reduceCtorEq, Int.reduceEq, Int.reduceGT, Int.reduceGE, Int.reduceNeg]
        refine sub_mk [(2, 2)] rfl rfl rfl ?_
        simp only [tmSub, hpSub, objSub, eqTm, eqHp, rn, lk, SV.ren, SV.renC, SV.renB, SV.renA, ren_ints, ren_strs, ren_pl, ren_svs, SV.v.injEq, Value.int.injEq, Body.ints.injEq, SV.ptr.injEq, SV.sl.injEq, Value.string.injEq, Value.bool.injEq, List.map_cons, List.map_nil, forall_const, Nat.reduceLT, Nat.lt_add_one, imp_self, true_and, and_true, and_self, ob_some, get_mk, lk_cons, ↓reduceIte, Nat.reduceEqDiff, ne_eq, not_true_eq_false, not_false_eq_true, Nat.one_ne_zero, Nat.zero_ne_one, Nat.succ_ne_self, Nat.reduceAdd, Bool.false_eq_true, false_implies, implies_true, reduceCtorEq]
    · have c0 : j < m := by have := of_decide_eq_false c; omega
      have c1 : 2 ≤ m := by omega
      have hp := pw_le c1
      have hp1 := pw_pos (n := m)
      have z1 : szB ((ss.drop o).take (pw m)) := take_drop_take (show pw m ≤ m by omega) ▸ szB_take hsz
      have z2 : szB ((ss.drop (o + pw m)).take (m - pw m)) := drop_drop_take ▸ szB_drop hsz
      simp -implicitDefEqProofs only [go_sem, ↓reduceIte, Nat.reduceEqDiff, Nat.reduceAdd, Nat.reduceMul, Nat.reduceLT, Nat.reduceLeDiff, Nat.reduceSub, Int.reduceToNat, Int.reduceLE, Int.reduceLT, reduceCtorEq, Int.reduceEq, Int.reduceGT, Int.reduceGE, Int.reduceNeg, c]
      refine at_call tpower (powerS c1 (by omega)) ?_
      simp -implicitDefEqProofs only [go_sem, ↓reduceIte, Nat.reduceEqDiff, Nat.reduceAdd, Nat.reduceMul, Nat.reduceLT, Nat.reduceLeDiff, Nat.reduceSub, Int.reduceToNat, Int.reduceLE, Int.reduceLT, reduceCtorEq, Int.reduceEq, Int.reduceGT, Int.reduceGE, Int.reduceNeg]
      refine condK_bb (fun d => ?_) (fun d => ?_)
      · have d1 : j ≤ pw m := by have := of_decide_eq_true d; omega
        have L1 := part_len (wh := wh) (l := (ss.drop o).take (pw m)) (j := j) rfl
        rw [seg_len (by omega)] at L1
        have e0 := part_le (wh := wh) (l := (ss.drop o).take m) (m := j) (by omega) hj1 (by rw [hl]; exact d1)
        rw [hl, take_drop_take (by omega), drop_drop_take] at e0
        rw [e0]
        simp -implicitDefEqProofs only [go_sem, ↓reduceIte, Nat.reduceEqDiff, Nat.reduceAdd, Nat.reduceMul, Nat.reduceLT, Nat.reduceLeDiff, Nat.reduceSub, Int.reduceToNat, Int.reduceLE, Int.reduceLT, reduceCtorEq, Int.reduceEq, Int.reduceGT, Int.reduceGE, Int.reduceNeg, d, Nat.sub_zero]
        refine ⟨⟨by omega, by omega⟩, ⟨by omega, by omega, by omega⟩, ?_⟩
        refine at_call trpart (ih (pw m) (by omega) (a := 1) (o := o) (j := j) (wh := wh) (ss := ss) (by rfl) (by omega) (by omega) d1 hj1 z1 (by decide)) ?_
        simp -implicitDefEqProofs only [go_sem, ↓reduceIte, Nat.reduceEqDiff, Nat.reduceAdd, Nat.reduceMul, Nat.reduceLT, Nat.reduceLeDiff, Nat.reduceSub, Int.reduceToNat, Int.reduceLE, Int.reduceLT, reduceCtorEq, Int.reduceEq, Int.reduceGT, Int.reduceGE, Int.reduceNeg]
        refine at_call trefRoot (rrootS (ss := ss) (by rfl) (by omega) (by omega) z2) ?_
        simp -implicitDefEqProofs only [go_sem, ↓reduceIte, Nat.reduceEqDiff, Nat.reduceAdd, Nat.reduceMul, Nat.reduceLT, Nat.reduceLeDiff, Nat.reduceSub, Int.reduceToNat, Int.reduceLE, Int.reduceLT, reduceCtorEq, Int.reduceEq, Int.reduceGT, Int.reduceGE, Int.reduceNeg]
        refine ⟨by omega, by omega, app_kill ?_⟩
        simp -implicitDefEqProofs only [go_sem, ↓reduceIte, Nat.reduceEqDiff, Nat.reduceAdd, Nat.reduceMul, Nat.reduceLT, Nat.reduceLeDiff, Nat.reduceSub, Int.reduceToNat, Int.reduceLE, Int.reduceLT, reduceCtorEq, Int.reduceEq, Int.reduceGT, Int.reduceGE, Int.reduceNeg, app_seg]
        refine sub_mk [(2, 4)] rfl rfl rfl ?_
        simp only [tmSub, hpSub, objSub, eqTm, eqHp, rn, lk, SV.ren, SV.renC, SV.renB, SV.renA, ren_ints, ren_strs, ren_pl, ren_svs, SV.v.injEq, Value.int.injEq, Body.ints.injEq, SV.ptr.injEq, SV.sl.injEq, Value.string.injEq, Value.bool.injEq, List.map_cons, List.map_nil, forall_const, Nat.reduceLT, Nat.lt_add_one, imp_self, true_and, and_true, and_self, ob_some, get_mk, lk_cons, ↓reduceIte, Nat.reduceEqDiff, ne_eq, not_true_eq_false, not_false_eq_true, Nat.one_ne_zero, Nat.zero_ne_one, Nat.succ_ne_self, Nat.reduceAdd, Bool.false_eq_true, false_implies, implies_true, reduceCtorEq, List.length_append, List.length_singleton]
      · have d1 : ¬ j ≤ pw m := by have := of_decide_eq_false d; omega
        have L2 := part_len (wh := false) (l := (ss.drop (o + pw m)).take (m - pw m)) (j := j - pw m) rfl
        rw [seg_len (by omega)] at L2
        have e0 := part_gt (wh := wh) (l := (ss.drop o).take m) (m := j) (by omega) hj1 (by rw [hl]; exact d1)
        rw [hl, take_drop_take (by omega), drop_drop_take] at e0
        rw [e0]
        have w1 : IntKind.i64.wrap ((j : Int) - ((pw m : Nat) : Int)) = ((j - pw m : Nat) : Int) := by rw [wrap_i64 (by omega) (by omega)]; omega
        simp -implicitDefEqProofs only [go_sem, ↓reduceIte, Nat.reduceEqDiff, Nat.reduceAdd, Nat.reduceMul, Nat.reduceLT, Nat.reduceLeDiff, Nat.reduceSub, Int.reduceToNat, Int.reduceLE, Int.reduceLT, reduceCtorEq, Int.reduceEq, Int.reduceGT, Int.reduceGE, Int.reduceNeg, d, w1, Nat.sub_zero]
        refine ⟨⟨by omega, by omega, by omega⟩, ⟨by omega, by omega⟩, ?_⟩
        refine at_call trpart (ih (m - pw m) (by omega) (a := 1) (o := o + pw m) (j := j - pw m) (wh := false) (ss := ss) (by rfl) (by omega) (by omega) (by omega) (by omega) z2 (by decide)) ?_
        simp -implicitDefEqProofs only [go_sem, ↓reduceIte, Nat.reduceEqDiff, Nat.reduceAdd, Nat.reduceMul, Nat.reduceLT, Nat.reduceLeDiff, Nat.reduceSub, Int.reduceToNat, Int.reduceLE, Int.reduceLT, reduceCtorEq, Int.reduceEq, Int.reduceGT, Int.reduceGE, Int.reduceNeg]
        refine at_call trefRoot (rrootS (ss := ss) (by rfl) (by omega) (by omega) z1) ?_
        simp -implicitDefEqProofs only [go_sem, ↓reduceIte, Nat.reduceEqDiff, Nat.reduceAdd, Nat.reduceMul, Nat.reduceLT, Nat.reduceLeDiff, Nat.reduceSub, Int.reduceToNat, Int.reduceLE, Int.reduceLT, reduceCtorEq, Int.reduceEq, Int.reduceGT, Int.reduceGE, Int.reduceNeg]
        refine ⟨by omega, by omega, app_kill ?_⟩
        simp -implicitDefEqProofs only [go_sem, ↓reduceIte, Nat.reduceEqDiff, Nat.reduceAdd, Nat.reduceMul, Nat.reduceLT, Nat.reduceLeDiff, Nat.reduceSub, Int.reduceToNat, Int.reduceLE, Int.reduceLT, reduceCtorEq, Int.reduceEq, Int.reduceGT, Int.reduceGE, Int.reduceNeg, app_seg]
        refine sub_mk [(2, 4)] rfl rfl rfl ?_
        simp only [tmSub, hpSub, objSub, eqTm, eqHp, rn, lk, SV.ren, SV.renC, SV.renB, SV.renA, ren_ints, ren_strs, ren_pl, ren_svs, SV.v.injEq, Value.int.injEq, Body.ints.injEq, SV.ptr.injEq, SV.sl.injEq, Value.string.injEq, Value.bool.injEq, List.map_cons, List.map_nil, forall_const, Nat.reduceLT, Nat.lt_add_one, imp_self, true_and, and_true, and_self, ob_some, get_mk, lk_cons, ↓reduceIte, Nat.reduceEqDiff, ne_eq, not_true_eq_false, not_false_eq_true, Nat.one_ne_zero, Nat.zero_ne_one, Nat.succ_ne_self, Nat.reduceAdd, Bool.false_eq_true, false_implies, implies_true, reduceCtorEq, List.length_append, List.length_singleton]
theorem rconsS {a o m j : Nat} {ss : List ByteArray} (hr : rowAt H a (.strs []) = some (.strs ss)) (hom : o + m ≤ ss.length) (hm : m ≤ 1048576) (hj : j ≤ m) (hj1 : 1 ≤ j) (hsz : szB ((ss.drop o).take m)) (hn : n + 1 ≤ 1000) :
    SpecAt Try.prog nrefConsistency [.sl a o m 1, .v (.int .i64 j)] H n (.tup [.sl n 0 (part true j ((ss.drop o).take m)).length 1, .v (.int .i64 0)]) ⟨(n, some ⟨true, .strs (part true j ((ss.drop o).take m))⟩) :: H.l, H.x⟩ (n + 1) := by
  refine lift_new (pre := []) (post := [.int .i64 j]) (v := .tup [.sl 2 0 (part true j ((ss.drop o).take m)).length 1, .v (.int .i64 0)]) hr hn ?_
  show SpecAt Try.prog nrefConsistency [.sl 1 o m 1, .v (.int .i64 j)] ⟨[(1, some ⟨false, .strs ss⟩)], H.x⟩ 2 _ _ _
  refine okT.spec trefConsistency ?_
  unfold mrefConsistency
  have b1 : decide ((j : Int) < 0) = false := decide_eq_false (by omega)
  have b2 : decide ((j : Int) > (m : Int)) = false := decide_eq_false (by omega)
  have b3 : decide ((j : Int) = 0) = false := decide_eq_false (by omega)
  simp -implicitDefEqProofs only [↓fnVC, initTm]
  simp -implicitDefEqProofs only [go_sem, ↓reduceIte, Nat.reduceEqDiff, Nat.reduceAdd, Nat.reduceMul, Nat.reduceLT, Nat.reduceLeDiff, Nat.reduceSub, Int.reduceToNat, Int.reduceLE, Int.reduceLT, reduceCtorEq, Int.reduceEq, Int.reduceGT, Int.reduceGE, Int.reduceNeg, b1, b2, b3]
  refine at_call trpart (rpartS (ss := ss) (by rfl) hom hm hj hj1 hsz (by decide)) ?_
  simp -implicitDefEqProofs only [go_sem, ↓reduceIte, Nat.reduceEqDiff, Nat.reduceAdd, Nat.reduceMul, Nat.reduceLT, Nat.reduceLeDiff, Nat.reduceSub, Int.reduceToNat, Int.reduceLE, Int.reduceLT, reduceCtorEq, Int.reduceEq, Int.reduceGT, Int.reduceGE, Int.reduceNeg]
  refine sub_mk [] rfl rfl rfl ?_
  simp only [tmSub, hpSub, objSub, eqTm, eqHp, rn, lk, SV.ren, SV.renC, SV.renB, SV.renA, ren_ints, ren_strs, ren_pl, ren_svs, SV.v.injEq, Value.int.injEq, Body.ints.injEq, SV.ptr.injEq, SV.sl.injEq, Value.string.injEq, Value.bool.injEq, List.map_cons, List.map_nil, forall_const, Nat.reduceLT, Nat.lt_add_one, imp_self, true_and, and_true, and_self, ob_some, get_mk, lk_cons, ↓reduceIte, Nat.reduceEqDiff, ne_eq, not_true_eq_false, not_false_eq_true, Nat.one_ne_zero, Nat.zero_ne_one, Nat.succ_ne_self, Nat.reduceAdd, Bool.false_eq_true, false_implies, implies_true, reduceCtorEq]
theorem rconsN {o m a : Nat} {j : Int} (h : j < 0 ∨ (m : Int) < j) : SpecAt Try.prog nrefConsistency [.sl a o m 1, .v (.int .i64 j)] H n (.tup [.sl 0 0 0 1, .v (.int .i64 1)]) H n := okT.pure trefConsistency (by
  unfold mrefConsistency
  simp -implicitDefEqProofs only [↓fnVC, initTm]
  simp -implicitDefEqProofs only [go_sem, ↓reduceIte, Nat.reduceEqDiff, Nat.reduceAdd, Nat.reduceMul, Nat.reduceLT, Nat.reduceLeDiff, Nat.reduceSub, Int.reduceToNat, Int.reduceLE, Int.reduceLT, reduceCtorEq, Int.reduceEq, Int.reduceGT, Int.reduceGE, Int.reduceNeg]
  refine condK_bb (fun c => ?_) (fun c => ?_)
  · simp -implicitDefEqProofs only [go_sem, ↓reduceIte, Nat.reduceEqDiff, Nat.reduceAdd, Nat.reduceMul, Nat.reduceLT, Nat.reduceLeDiff, Nat.reduceSub, Int.reduceToNat, Int.reduceLE, Int.reduceLT, reduceCtorEq, Int.reduceEq, Int.reduceGT, Int.reduceGE, Int.reduceNeg, c]
  · simp -implicitDefEqProofs only [go_sem, ↓reduceIte, Nat.reduceEqDiff, Nat.reduceAdd, Nat.reduceMul, Nat.reduceLT, Nat.reduceLeDiff, Nat.reduceSub, Int.reduceToNat, Int.reduceLE, Int.reduceLT, reduceCtorEq, Int.reduceEq, Int.reduceGT, Int.reduceGE, Int.reduceNeg, c]
    refine condK_bb (fun d => ?_) (fun d => ?_)
    · simp -implicitDefEqProofs only [go_sem, ↓reduceIte, Nat.reduceEqDiff, Nat.reduceAdd, Nat.reduceMul, Nat.reduceLT, Nat.reduceLeDiff, Nat.reduceSub, Int.reduceToNat, Int.reduceLE, Int.reduceLT, reduceCtorEq, Int.reduceEq, Int.reduceGT, Int.reduceGE, Int.reduceNeg, d]
    · have c1 := of_decide_eq_false c
      have d1 := of_decide_eq_false d
      omega)
theorem rconsZ {o m a : Nat} : SpecAt Try.prog nrefConsistency [.sl a o m 1, .v (.int .i64 0)] H n (.tup [.sl 0 0 0 1, .v (.int .i64 0)]) H n := okT.pure trefConsistency (by
  unfold mrefConsistency
  have d : decide ((0 : Int) > (m : Int)) = false := decide_eq_false (by omega)
  simp -implicitDefEqProofs only [↓fnVC, initTm]
  simp -implicitDefEqProofs only [go_sem, ↓reduceIte, Nat.reduceEqDiff, Nat.reduceAdd, Nat.reduceMul, Nat.reduceLT, Nat.reduceLeDiff, Nat.reduceSub, Int.reduceToNat, Int.reduceLE, Int.reduceLT, reduceCtorEq, Int.reduceEq, Int.reduceGT, Int.reduceGE, Int.reduceNeg, d])
end Go.Sx
