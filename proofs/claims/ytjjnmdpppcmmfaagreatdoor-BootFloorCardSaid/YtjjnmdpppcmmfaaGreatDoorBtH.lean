/- Slots: the example; nothing is read of, or written to, no slots. -/
import Derived.Test.YtjjnmdpppcmmfaaGreatDoorBtG

set_option linter.unusedVariables false
set_option linter.unusedSimpArgs false
set_option maxRecDepth 100000
namespace Go.Sx
attribute [local go_sem ↓] bind_mk intsB_mk strsB_mk svB_mk fnVC ob_some vc_skip vc_exit vc_ret vc_seq vc_block kSeq_normal kSeq_exit kSeq_ret kBlock_normal kBlock_exit kBlock_ret vc_reg vc_regD vc_cond condK_true condK_false vc_loop kLoop_exit kLoop_ret kRoll_normal kRoll_exit kRoll_ret vcOps_nil vcOps_cons gd_bool gd_undef put_some put_none vcT_fin vcT_pure vcT_act vcT_acts vcT_stop stab_none stab_some stabM_nil stabM_cons stabO_ld stabO_ldn stabO_slP stabO_b2s fldOf_ai fldOf_agg fldOf_ait fldOf_aggt intsOf_nil intsOf_cons strsOf_nil strsOf_cons c_omap ob_if lk_nil lk_cons ev_t ev_k z_mov z_pick z_bin z_binA z_binB z_binP z_un z_r2s z_conv z_s2b z_b2s z_mkM z_luM z_upM z_lenM lenMk_mp lenMk_nil plsOf_v z_delM asM_so plV_v plV_agg mpOf_mp mpOf_nil mpUp_mp asM_mp luV_ok luV_v z_allocT aggOf_mk z_boxT z_alloc z_bld z_bldI z_rowI z_rowS z_ld z_ldn z_st z_stn asN_ptr asN_fn z_nilck z_fld z_fadr z_idxA z_idxP z_idxS z_idxV z_slS z_slL z_slP z_mk z_lenS z_lenL z_app appC_ints appC_pl appC_sv appC_strs isS_strs loose_ints loose_pl loose_sv z_slM z_callv callvK_fn callvK_f callvK_yl vc_rangeF rfEnd_eq rfGo_none rfGo_ret rfGo_exit yGo_mk yEnd_n yEnd_r yEnd_e yRdy_mk yMid_n putPs_nil putPs_cons leaf_v leaf_ptr leaf_sl leaf_yl leaf_mp z_appS z_appST z_appZ z_cpyS z_mkfn reps_int reps_str z_rowV z_slnil nilK_zero z_cpy z_call asT_tup z_extT z_box boxOf_ai boxOf_agg boxOf_int boxOf_str boxOf_bool boxOf_ptr boxOf_sl sbin_int sbin_str sbinA_mk ae_nil ae_int ae_str sbinB_mk sbinP_nn sbinP_pn sbinP_np i_add i_sub i_mul i_quo i_rem i_and i_or i_xor i_andNot i_shl i_shr i_eql i_neq i_lss i_leq i_gtr i_geq st_add st_eql st_neq st_lss st_leq st_gtr st_geq bo_eql bo_neq pt_eql pt_neq un_neg un_xor un_not asI_mk asB_mk asS_mk asP_mk asSl_mk asBy_mk bnd_none bnd_some get_mk hput_mk hdel_mk kill_eq wrOf_eq rowOf_eq rsvs_0 rsvs_1 rsvs_2 rsvs_3 rsv_t rsv_c1 rsv_cn nt_v nt_ptr nt_sl nt_agg nt_ai get_ints get_strs get_pl get_sv getN_ints getN_sv set_ints set_strs set_sv setN_ints setN_sv part_ints part_strs part_sv cat_ints cat_strs cat_sv over_ints over_strs over_sv ones_ints ones_strs evs_nil evs_cons condK_eqt condK_eqf det_callP V_ns V_nn V_gs V_gn obC_mk fresh_ev freshT_ev freshR_ev setN_plagg setN_intsv setN_svai setN_svagg over_intsv set_pl setN_pl setN_plai getN_pl getN_strs part_pl cat_pl over_pl over_plints z_mm
attribute [local go_sem] initTm ne_eq not_true_eq_false not_false_eq_true true_and and_true List.length_cons List.length_nil Int.toNat_natCast Nat.add_zero Nat.zero_add Nat.mul_one List.getElem?_cons_zero List.drop_zero List.take_length List.take_succ_cons List.take_zero List.take_nil List.drop_succ_cons Option.map_some Nat.le_refl implies_true List.getElem?_cons_succ decide_true decide_false Bool.not_true Bool.not_false beq_self_eq_true Nat.succ_ne_self Nat.one_ne_zero Nat.zero_ne_one vk_mk hk_mk nk_mk tok_eq plsOf_map intsOf_map bodyOf_pl bodyOf_ints bodyOf_strs bodyOf_sv part_aggv part_agg part_ai part_int part_str part_bool part_sl part_ptr part_nil numsOf_map u_int u_str u_bool u_pnil u_sl u_ptr u_oci u_ocs evq_nil evq_cons fillS_nil fillS_cons u_ocb ones_pl cells_sv cells_ints cells_strs cells_pl smms_nil smms_cons smm_min smm_max plsOf_nil List.nil_append List.all_cons List.all_nil Bool.and_self Bool.true_and Bool.and_true zws_len zw_len zi_len List.set_cons_zero List.set_cons_succ List.flatMap_cons List.flatMap_nil List.append_nil
attribute [local go_sem_proc] Nat.reduceEqDiff Nat.reduceAdd Nat.reduceMul Nat.reduceLT Nat.reduceLeDiff Nat.reduceSub Int.reduceToNat Int.reduceLE Int.reduceLT reduceCtorEq Int.reduceEq Int.reduceGT Int.reduceGE Int.reduceNeg
attribute [local go_sem_proc ↓] reduceIte
section
open Go.Proofs
namespace Sl
variable {H : Hp} {n : Nat} {x : Nat → Option SO} {d d' : Fd} {i a b c : Nat} {u1 u2 u3 : Bool}
theorem swR_inv {f0 : Bool} {m a0 r bs v : Nat} {st slot : Int} {S : List (List Int)} {I : ByteArray} (g : GoodP f0 m st S [] d) (hm : a0 + 1 + r ≤ m) (hs : slOK slot = true) (hat : atV bs r slot = a0)
    (hv : 1 ≤ v ∧ v < 256) (hI : 1 ≤ I.size ∧ I.size ≤ 8192 ∧ I.size ≤ r * 64) : InvP f0 m (PhA S a0 v I) (st + 5 + nCh I) (doneS S a0 v I) [] (swR bs r slot v I d) := by
  have hE : swE r slot v I = 0 := by
    unfold swE
    rw [if_neg, if_neg (by omega)]
    rw [hs]
    intro h
    rcases h with h | h | h | h
    · cases h
    · omega
    · omega
    · rw [h] at hI; exact absurd hI.1 (by decide)
  unfold swR
  rw [if_pos hE, Int.toNat_natCast, hat]
  exact slW_inv g hm (by unfold nCh; omega)
theorem goodNew {m : Nat} : GoodP true m 0 (List.replicate m (zi 64)) [] (newD m) := ⟨rfl, rfl, rfl, rfl, by simp [newD], rfl, fun _ => rfl⟩
theorem inv_good {m : Nat} {P : List (List Int) → List (Nat × List Int) → Prop} {st : Int} {X : List (List Int)} {Y : List (Nat × List Int)} {p : Int × Fd} (h : InvP true m P st X Y p) : p.1 = 0 ∧ GoodP true m st X Y p.2 := by
  rcases h with h | ⟨h, _⟩
  · exact h
  · cases h
theorem GoodP.seen {f0 : Bool} {m : Nat} {st : Int} {S : List (List Int)} (g : GoodP f0 m st S [] d) : d.seen = S := by
  rw [show d.seen = setl d.safe d.pend from g.sn, g.safe, g.pend]; rfl
theorem srT_wrote {f0 : Bool} {m a0 r bs v : Nat} {st slot : Int} {S : List (List Int)} {I : ByteArray} (g : GoodP f0 m st (doneS S a0 v I) [] d) (hl : S.length = m) (hm : a0 + 1 + r ≤ m) (hs : slOK slot = true) (hat : atV bs r slot = a0)
    (hv : 1 ≤ v ∧ v < 256) (hI : 1 ≤ I.size ∧ I.size ≤ 8192 ∧ I.size ≤ r * 64) : srT bs r slot d = (v, I, 0) := by
  have hN : nCh I ≤ r := by unfold nCh; omega
  refine srT_done hs g.off hat ?_ (fun k hk => ?_) hv hI
  · rw [g.seen]; exact done_at (by omega)
  · rw [g.seen]; exact done_ch hk (by omega)
end Sl
end
end Go.Sx
/- Cells: a copy's write, plain (as layer 22's, with any header). -/
set_option linter.unusedVariables false
set_option linter.unusedSimpArgs false
set_option maxRecDepth 100000
namespace Go.Sx
open Go.Proofs
variable {H : Hp} {n : Nat} {x : Nat → Option SO} {d d' : Fd} {i a b c : Nat} {u1 u2 u3 : Bool}
def thn (p : Int × Fd) (f : Fd → Int × Fd) : Int × Fd := if p.1 = 0 then f p.2 else p
theorem thn_ok {p : Int × Fd} {f : Fd → Int × Fd} (h : p.1 = 0) : thn p f = f p.2 := if_pos h
theorem thn_no {p : Int × Fd} {f : Fd → Int × Fd} (h : p.1 ≠ 0) : thn p f = p := if_neg h
theorem thn_pl {p : Int × Fd} {f : Fd → Int × Fd} {m t : Nat} (hP : Pl p.2 m t) (hf : Pl p.2 m t → Pl (f p.2).2 m (t + 1)) : Pl (thn p f).2 m (t + 1) := by
  unfold thn; split
  · exact hf hP
  · exact hP.more
def chk (I : ByteArray) (j : Nat) : ByteArray := I.extract (64 * j) (min (64 * j + 64) I.size)
def cws (at_ : Int) (I : ByteArray) (p : Int × Fd) : Nat → Int × Fd
  | 0 => p
  | j + 1 => thn (cws at_ I p j) fun d => wrT d (at_ + 1 + j) (chk I j)
def nCh (I : ByteArray) : Nat := (I.size + 63) / 64
def p1 (at_ : Int) (d : Fd) : Int × Fd := thn (wrT d at_ ⟨#[]⟩) baT
def pC (at_ : Int) (I : ByteArray) (d : Fd) (j : Nat) : Int × Fd := cws at_ I (p1 at_ d) j
def p2 (at_ : Int) (I : ByteArray) (d : Fd) : Int × Fd := thn (pC at_ I d (nCh I)) baT
def p3 (at_ : Int) (Q : ByteArray) (I : ByteArray) (d : Fd) : Int × Fd := thn (p2 at_ I d) fun d => wrT d at_ (Q)
def slW (at_ : Int) (Q : ByteArray) (I : ByteArray) (d : Fd) : Int × Fd := thn (p3 at_ Q I d) baT
theorem p1_pl {at_ : Int} {m t : Nat} (hP : Pl d m t) (ht : t + 1000 < 1000000) : Pl (p1 at_ d).2 m (t + 2) :=
  thn_pl (wrT_pl hP (by omega)) fun h => baT_pl h (by omega)
theorem pC_pl {at_ : Int} {I : ByteArray} {m t : Nat} (hP : Pl d m t) (ht : t + 1000 < 1000000) : ∀ {j}, j ≤ 200 → Pl (pC at_ I d j).2 m (t + 2 + j)
  | 0, _ => p1_pl hP ht
  | j + 1, h => thn_pl (pC_pl hP ht (by omega)) fun h => wrT_pl h (by show t + 2 + j < 1000000; omega)
theorem nCh_lt {I : ByteArray} {j : Nat} : j < nCh I ↔ 64 * j < I.size := by unfold nCh; omega
theorem nCh_le {I : ByteArray} (h : I.size ≤ 8192) : nCh I ≤ 128 := by unfold nCh; omega
theorem p2_pl {at_ : Int} {I : ByteArray} {m t : Nat} (hP : Pl d m t) (ht : t + 1000 < 1000000) (hI : I.size ≤ 8192) : Pl (p2 at_ I d).2 m (t + 131) := by
  have h1 := pC_pl (at_ := at_) (I := I) hP ht (j := nCh I) (by have := nCh_le hI; omega)
  have h2 := thn_pl h1 (f := baT) fun h => baT_pl h (by have := nCh_le hI; omega)
  exact h2.mono (by have := nCh_le hI; omega)
theorem p3_pl {at_ : Int} {Q : ByteArray} {I : ByteArray} {m t : Nat} (hP : Pl d m t) (ht : t + 1000 < 1000000) (hI : I.size ≤ 8192) : Pl (p3 at_ Q I d).2 m (t + 132) :=
  thn_pl (p2_pl hP ht hI) fun h => wrT_pl h (by omega)
theorem slW_pl {at_ : Int} {Q : ByteArray} {I : ByteArray} {m t : Nat} (hP : Pl d m t) (ht : t + 1000 < 1000000) (hI : I.size ≤ 8192) : Pl (slW at_ Q I d).2 m (t + 133) :=
  thn_pl (p3_pl hP ht hI) fun h => baT_pl h (by omega)
structure GoodP (f0 : Bool) (m : Nat) (st : Int) (X : List (List Int)) (Y : List (Nat × List Int)) (d : Fd) : Prop where
  off : d.off = false
  safe : d.safe = X
  pend : d.pend = Y
  sn : Sn d
  len : d.seen.length = m
  st : d.st = st
  fa : f0 = true → d.fa = 0
def InvP (f0 : Bool) (m : Nat) (P : List (List Int) → List (Nat × List Int) → Prop) (st : Int) (X : List (List Int)) (Y : List (Nat × List Int)) (p : Int × Fd) : Prop :=
  (p.1 = 0 ∧ GoodP f0 m st X Y p.2) ∨ (f0 = false ∧ p.1 = 7 ∧ P p.2.safe p.2.pend)
theorem inv_wr {f0 : Bool} {m : Nat} {P : List (List Int) → List (Nat × List Int) → Prop} {st : Int} {X : List (List Int)} {Y : List (Nat × List Int)} {p : Int × Fd} {k : Nat} {s : ByteArray}
    (h : InvP f0 m P st X Y p) (hP : P X Y) (hk : k < m) (hs : s.size ≤ 64) : InvP f0 m P (st + 1) X (Y ++ [(k, pad64 (bts s))]) (thn p fun d => wrT d k s) := by
  rcases h with ⟨h0, g⟩ | ⟨hf, h7, hp⟩
  · rw [thn_ok h0]
    obtain ⟨e, d⟩ := p
    obtain ⟨g1, g2, g3, g4, g5, g6, g7⟩ := g
    simp only at g1 g2 g3 g4 g5 g6 g7
    unfold wrT
    have hN : wrNo d k s = if d.fa = 1 then some (7, stepD d) else none := by
      unfold wrNo; rw [g1, if_neg Bool.false_ne_true, if_neg (by omega), if_neg (by omega)]
    rw [hN]
    by_cases hfa : d.fa = 1
    · rw [if_pos hfa]
      refine .inr ⟨?_, rfl, ?_⟩
      · cases f0
        · rfl
        · have := g7 rfl; omega
      · show P (stepD d).safe (stepD d).pend
        rw [stepD_safe.1, stepD_safe.2.1, g2, g3]; exact hP
    · rw [if_neg hfa]
      refine .inl ⟨rfl, ⟨?_, ?_, ?_, ?_, ?_, ?_, ?_⟩⟩
      · show (wrD d _ s).off = false
        rw [wrD_off hfa, g1]
      · show (wrD d _ s).safe = X
        rw [wrD_safe, g2]
      · show (wrD d _ s).pend = _
        rw [wrD_pend, g3, Int.toNat_natCast]
      · exact g4.wr
      · show (wrD d _ s).seen.length = _
        rw [wrD_len, g5]
      · show (wrD d _ s).st = _
        rw [wrD_st hfa, g6]
      · intro hf; show (wrD d _ s).fa = _
        exact wrD_fa (g7 hf)
  · have hp1 : p.1 ≠ 0 := by rw [h7]; decide
    rw [thn_no hp1]
    exact .inr ⟨hf, h7, hp⟩
theorem inv_ba {f0 : Bool} {m : Nat} {P : List (List Int) → List (Nat × List Int) → Prop} {st : Int} {X : List (List Int)} {Y : List (Nat × List Int)} {p : Int × Fd}
    (h : InvP f0 m P st X Y p) (hP : P X Y) : InvP f0 m P (st + 1) (setl X Y) [] (thn p baT) := by
  rcases h with ⟨h0, g⟩ | ⟨hf, h7, hp⟩
  · rw [thn_ok h0]
    obtain ⟨e, d⟩ := p
    obtain ⟨g1, g2, g3, g4, g5, g6, g7⟩ := g
    simp only at g1 g2 g3 g4 g5 g6 g7
    unfold baT
    have hN : baNo d = if d.fa = 1 then some (7, stepD d) else none := by
      unfold baNo; rw [g1, if_neg Bool.false_ne_true]
    rw [hN]
    by_cases hfa : d.fa = 1
    · rw [if_pos hfa]
      refine .inr ⟨?_, rfl, ?_⟩
      · cases f0
        · rfl
        · have := g7 rfl; omega
      · show P (stepD d).safe (stepD d).pend
        rw [stepD_safe.1, stepD_safe.2.1, g2, g3]; exact hP
    · rw [if_neg hfa]
      refine .inl ⟨rfl, ⟨?_, ?_, rfl, ?_, ?_, ?_, ?_⟩⟩
      · show (baD d).off = false
        rw [baD_off hfa, g1]
      · show setl d.safe d.pend = _
        rw [g2, g3]
      · show (baD d).seen = setl (baD d).safe (baD d).pend
        rw [g4.ba]; rfl
      · show (baD d).seen.length = _
        rw [baD_seen, g5]
      · show (baD d).st = _
        rw [baD_st hfa, g6]
      · intro hf; exact baD_fa (g7 hf)
  · have hp1 : p.1 ≠ 0 := by rw [h7]; decide
    rw [thn_no hp1]
    exact .inr ⟨hf, h7, hp⟩
def pch (a0 : Nat) (I : ByteArray) (j : Nat) : List (Nat × List Int) := (List.range j).map fun k => (a0 + 1 + k, pad64 (bts (chk I k)))
def z64 : List Int := pad64 (bts ⟨#[]⟩)
def hd64 (Q : ByteArray) : List Int := pad64 (bts Q)
theorem pch_succ {a0 : Nat} {I : ByteArray} {j : Nat} : pch a0 I (j + 1) = pch a0 I j ++ [(a0 + 1 + j, pad64 (bts (chk I j)))] := by
  unfold pch; rw [List.range_succ, List.map_append]; rfl
theorem chk_size {I : ByteArray} {j : Nat} : (chk I j).size ≤ 64 := by
  unfold chk; rw [ByteArray.size_extract]; omega
inductive PhA (S : List (List Int)) (a0 : Nat) (Q : ByteArray) (I : ByteArray) : List (List Int) → List (Nat × List Int) → Prop
  | p0 : PhA S a0 Q I S []
  | p1 : PhA S a0 Q I S [(a0, z64)]
  | p2 (j : Nat) (h : j ≤ nCh I) : PhA S a0 Q I (S.set a0 z64) (pch a0 I j)
  | p4 : PhA S a0 Q I (setl (S.set a0 z64) (pch a0 I (nCh I))) []
  | p5 : PhA S a0 Q I (setl (S.set a0 z64) (pch a0 I (nCh I))) [(a0, hd64 Q)]
def doneS (S : List (List Int)) (a0 : Nat) (Q : ByteArray) (I : ByteArray) : List (List Int) := (setl (S.set a0 z64) (pch a0 I (nCh I))).set a0 (hd64 Q)
theorem slW_inv {f0 : Bool} {m a0 r : Nat} {st : Int} {S : List (List Int)} {I Q : ByteArray} (hh : Q.size ≤ 64) (g : GoodP f0 m st S [] d) (hm : a0 + 1 + r ≤ m) (hI : nCh I ≤ r) :
    InvP f0 m (PhA S a0 Q I) (st + 5 + nCh I) (doneS S a0 Q I) [] (slW a0 Q I d) := by
  have h0 : InvP f0 m (PhA S a0 Q I) st S [] (0, d) := .inl ⟨rfl, g⟩
  have h1 := inv_wr (k := a0) (s := ⟨#[]⟩) h0 .p0 (by omega) (by decide)
  rw [thn_ok rfl] at h1
  have h2 : InvP f0 m (PhA S a0 Q I) (st + 1 + 1) (S.set a0 z64) [] (p1 a0 d) := inv_ba h1 .p1
  have h3 : ∀ j, j ≤ nCh I → InvP f0 m (PhA S a0 Q I) (st + 2 + j) (S.set a0 z64) (pch a0 I j) (pC a0 I d j) := by
    intro j
    induction j with
    | zero => intro _; have e : st + 1 + 1 = st + 2 + (0 : Nat) := by omega
              rw [e] at h2; exact h2
    | succ j ih =>
      intro hj
      have := inv_wr (k := a0 + 1 + j) (s := chk I j) (ih (by omega)) (.p2 j (by omega)) (by omega) chk_size
      rw [← pch_succ, show st + 2 + (j : Int) + 1 = st + 2 + ((j + 1 : Nat) : Int) by omega] at this
      exact this
  have h4 : InvP f0 m (PhA S a0 Q I) (st + 2 + nCh I + 1) (setl (S.set a0 z64) (pch a0 I (nCh I))) [] (p2 a0 I d) := inv_ba (h3 _ (Nat.le_refl _)) (.p2 _ (Nat.le_refl _))
  have h5 : InvP f0 m (PhA S a0 Q I) (st + 2 + nCh I + 1 + 1) (setl (S.set a0 z64) (pch a0 I (nCh I))) [(a0, hd64 Q)] (p3 a0 Q I d) := inv_wr h4 .p4 (by omega) hh
  have h6 : InvP f0 m (PhA S a0 Q I) (st + 2 + nCh I + 1 + 1 + 1) (doneS S a0 Q I) [] (slW a0 Q I d) := inv_ba h5 .p5
  rw [show st + 2 + (nCh I : Int) + 1 + 1 + 1 = st + 5 + nCh I by omega] at h6
  exact h6
end Go.Sx

/- Cells: names, bytes. -/
set_option linter.unusedVariables false
set_option linter.unusedSimpArgs false
set_option maxRecDepth 100000
namespace Go.Sx
attribute [local go_sem ↓] bind_mk intsB_mk strsB_mk svB_mk fnVC ob_some vc_skip vc_exit vc_ret vc_seq vc_block kSeq_normal kSeq_exit kSeq_ret kBlock_normal kBlock_exit kBlock_ret vc_reg vc_regD vc_cond condK_true condK_false vc_loop kLoop_exit kLoop_ret kRoll_normal kRoll_exit kRoll_ret vcOps_nil vcOps_cons gd_bool gd_undef put_some put_none vcT_fin vcT_pure vcT_act vcT_acts vcT_stop stab_none stab_some stabM_nil stabM_cons stabO_ld stabO_ldn stabO_slP stabO_b2s fldOf_ai fldOf_agg fldOf_ait fldOf_aggt intsOf_nil intsOf_cons strsOf_nil strsOf_cons c_omap ob_if lk_nil lk_cons ev_t ev_k z_mov z_pick z_bin z_binA z_binB z_binP z_un z_r2s z_conv z_s2b z_b2s z_mkM z_luM z_upM z_lenM lenMk_mp lenMk_nil plsOf_v z_delM asM_so plV_v plV_agg mpOf_mp mpOf_nil mpUp_mp asM_mp luV_ok luV_v z_allocT aggOf_mk z_boxT z_alloc z_bld z_bldI z_rowI z_rowS z_ld z_ldn z_st z_stn asN_ptr asN_fn z_nilck z_fld z_fadr z_idxA z_idxP z_idxS z_idxV z_slS z_slL z_slP z_mk z_lenS z_lenL z_app appC_ints appC_pl appC_sv appC_strs isS_strs loose_ints loose_pl loose_sv z_slM z_callv callvK_fn callvK_f callvK_yl vc_rangeF rfEnd_eq rfGo_none rfGo_ret rfGo_exit yGo_mk yEnd_n yEnd_r yEnd_e yRdy_mk yMid_n putPs_nil putPs_cons leaf_v leaf_ptr leaf_sl leaf_yl leaf_mp z_appS z_appST z_appZ z_cpyS z_mkfn reps_int reps_str z_rowV z_slnil nilK_zero z_cpy z_call asT_tup z_extT z_box boxOf_ai boxOf_agg boxOf_int boxOf_str boxOf_bool boxOf_ptr boxOf_sl sbin_int sbin_str sbinA_mk ae_nil ae_int ae_str sbinB_mk sbinP_nn sbinP_pn sbinP_np i_add i_sub i_mul i_quo i_rem i_and i_or i_xor i_andNot i_shl i_shr i_eql i_neq i_lss i_leq i_gtr i_geq st_add st_eql st_neq st_lss st_leq st_gtr st_geq bo_eql bo_neq pt_eql pt_neq un_neg un_xor un_not asI_mk asB_mk asS_mk asP_mk asSl_mk asBy_mk bnd_none bnd_some get_mk hput_mk hdel_mk kill_eq wrOf_eq rowOf_eq rsvs_0 rsvs_1 rsvs_2 rsvs_3 rsv_t rsv_c1 rsv_cn nt_v nt_ptr nt_sl nt_agg nt_ai get_ints get_strs get_pl get_sv getN_ints getN_sv set_ints set_strs set_sv setN_ints setN_sv part_ints part_strs part_sv cat_ints cat_strs cat_sv over_ints over_strs over_sv ones_ints ones_strs evs_nil evs_cons condK_eqt condK_eqf det_callP V_ns V_nn V_gs V_gn obC_mk fresh_ev freshT_ev freshR_ev setN_plagg setN_intsv setN_svai setN_svagg over_intsv set_pl setN_pl setN_plai getN_pl getN_strs part_pl cat_pl over_pl over_plints z_mm
attribute [local go_sem] initTm ne_eq not_true_eq_false not_false_eq_true true_and and_true List.length_cons List.length_nil Int.toNat_natCast Nat.add_zero Nat.zero_add Nat.mul_one List.getElem?_cons_zero List.drop_zero List.take_length List.take_succ_cons List.take_zero List.take_nil List.drop_succ_cons Option.map_some Nat.le_refl implies_true List.getElem?_cons_succ decide_true decide_false Bool.not_true Bool.not_false beq_self_eq_true Nat.succ_ne_self Nat.one_ne_zero Nat.zero_ne_one vk_mk hk_mk nk_mk tok_eq plsOf_map intsOf_map bodyOf_pl bodyOf_ints bodyOf_strs bodyOf_sv part_aggv part_agg part_ai part_int part_str part_bool part_sl part_ptr part_nil numsOf_map u_int u_str u_bool u_pnil u_sl u_ptr u_oci u_ocs evq_nil evq_cons fillS_nil fillS_cons u_ocb ones_pl cells_sv cells_ints cells_strs cells_pl smms_nil smms_cons smm_min smm_max plsOf_nil List.nil_append List.all_cons List.all_nil Bool.and_self Bool.true_and Bool.and_true zws_len zw_len zi_len List.set_cons_zero List.set_cons_succ List.flatMap_cons List.flatMap_nil List.append_nil
attribute [local go_sem_proc] Nat.reduceEqDiff Nat.reduceAdd Nat.reduceMul Nat.reduceLT Nat.reduceLeDiff Nat.reduceSub Int.reduceToNat Int.reduceLE Int.reduceLT reduceCtorEq Int.reduceEq Int.reduceGT Int.reduceGE Int.reduceNeg
attribute [local go_sem_proc ↓] reduceIte
section
open Go.Proofs
variable {H : Hp} {n : Nat} {x : Nat → Option SO} {i : Nat}
theorem srtK_len {es : List (Value × Value)} : (srtK es).length = es.length := by unfold srtK; rw [List.length_map, List.length_mergeSort, List.length_map]
theorem namesW {es : List (Value × Value)} (hk : keysS es = true) (hs : ∀ e ∈ es, (keyB e).length ≤ maxLen) (hl : es.length ≤ 1000000) :
    fnVC CT mcnames [.mp 1] ⟨[(1, some ⟨false, .mp (.map es)⟩)], x⟩ 2 fun v H' n' => Sub 2 ⟨[(0, .sl 2 0 es.length 1)], ⟨[(2, some ⟨true, .strs (srtK es)⟩)], x⟩, 3⟩ ⟨[(0, v)], H', n'⟩ := by
  unfold mcnames
  simp -implicitDefEqProofs only [↓fnVC, initTm]
  simp -implicitDefEqProofs only [go_sem]
  refine at_ext (enters_mk Tryz.func120 rfl rfl) (keysT (i := 1) (by rfl) (by decide)) ?_
  simp -implicitDefEqProofs only [go_sem]
  refine at_ext (enters_mk Tryz.func119 rfl rfl) (sortedT (i := 1) (j := 3) (k := 2) (by rfl) rfl (by rfl) rfl (by rfl) rfl hk hs hl (by decide)) ?_
  simp -implicitDefEqProofs only [go_sem]
  refine sub_mk [(2, 4)] rfl rfl rfl ?_
  simp only [tmSub, hpSub, objSub, eqTm, eqHp, rn, lk, SV.ren, SV.renC, SV.renB, SV.renA, ren_ints, ren_strs, ren_pl, ren_svs, SV.v.injEq, Value.int.injEq, Body.ints.injEq, SV.ptr.injEq, SV.sl.injEq, Value.string.injEq, Value.bool.injEq, List.map_cons, List.map_nil, forall_const, Nat.reduceLT, Nat.lt_add_one, imp_self, true_and, and_true, and_self, ob_some, get_mk, lk_cons, ↓reduceIte, Nat.reduceEqDiff, ne_eq, not_true_eq_false, not_false_eq_true, Nat.one_ne_zero, Nat.zero_ne_one, Nat.succ_ne_self, Nat.reduceAdd, Bool.false_eq_true, false_implies, implies_true, reduceCtorEq]
theorem namesS {es : List (Value × Value)} {s : SO} (hg : H.get i = some s) (hb : s.b = .mp (.map es)) (hi : 0 < i) (hk : keysS es = true) (hs : ∀ e ∈ es, (keyB e).length ≤ maxLen) (hl : es.length ≤ 1000000) (hn : n + 1 ≤ 1000) :
    SpecAt Tryz.prog ncnames [.mp i] H n (.sl n 0 es.length 1) ⟨(n, some ⟨true, .strs (srtK es)⟩) :: H.l, H.x⟩ (n + 1) := by
  have := lift (n := n) (okT.spec tcnames (namesW (x := H.x) hk hs hl)) [(1, i)] rfl rfl rfl (by omega) rfl rfl
    ⟨sub_ro rfl hi hg hb, trivial⟩ (by simp [apartB, apart1, rn, lk]) (by simp [wrNZ, rn, lk]) (by omega)
  exact this
structure Es (es : List (Value × Value)) : Prop where
  keys : keysS es = true
  kl : ∀ e ∈ es, (keyB e).length ≤ 32
  vals : ∀ e ∈ es, ∃ t : ByteArray, e.2 = .agg ⟨[.string t]⟩ ∧ t.size ≤ 65535
  len : es.length ≤ 64
  ne : ∀ e ∈ es, keyB e ≠ []
  nd : (es.map keyB).Nodup
def tOf (es : List (Value × Value)) (name : ByteArray) : ByteArray := match luS es name with
  | some (.agg ⟨[.string t]⟩) => t
  | _ => ⟨#[]⟩
theorem lu_some {es : List (Value × Value)} (hk : keysS es = true) {s : ByteArray} (h : s.data.toList ∈ es.map keyB) : ∃ e ∈ es, luS es s = some e.2 := by
  induction es with
  | nil => cases h
  | cons e es ih =>
    unfold keysS at hk
    rw [List.all_cons, Bool.and_eq_true] at hk
    unfold luS
    by_cases c : keyIs e.1 s = true
    · rw [if_pos c]; exact ⟨e, List.mem_cons_self .., rfl⟩
    · rw [if_neg c]
      rw [List.map_cons] at h
      rcases List.mem_cons.1 h with h | h
      · exfalso
        apply c
        have h1 := hk.1
        unfold keyB at h
        cases hq : e.1 <;> simp [hq] at h1
        rename_i q
        rw [hq] at h
        simp only at h
        unfold keyIs
        have : q = s := by apply ByteArray.ext; exact (Array.toList_inj.1 h).symm
        exact decide_eq_true this
      · obtain ⟨e', h1, h2⟩ := ih hk.2 h
        exact ⟨e', List.mem_cons_of_mem _ h1, h2⟩
theorem srtK_mem {es : List (Value × Value)} {s : ByteArray} (h : s ∈ srtK es) : s.data.toList ∈ es.map keyB := by
  unfold srtK at h
  obtain ⟨l, hl, rfl⟩ := List.mem_map.1 h
  exact (List.mergeSort_perm _ _).mem_iff.1 hl
theorem Es.at_ {es : List (Value × Value)} (h : Es es) {s : ByteArray} (hs : s ∈ srtK es) : luS es s = some (.agg ⟨[.string (tOf es s)]⟩) ∧ (tOf es s).size ≤ 65535 ∧ s.size ≤ 32 := by
  have hm := srtK_mem hs
  obtain ⟨e, he, hl⟩ := lu_some h.keys hm
  obtain ⟨t, ht, htz⟩ := h.vals e he
  have e1 : tOf es s = t := by unfold tOf; rw [hl, ht]
  rw [e1, hl, ht]
  refine ⟨rfl, htz, ?_⟩
  obtain ⟨e', he', hk'⟩ := List.mem_map.1 hm
  have := h.kl e' he'
  rw [hk'] at this
  rw [Array.length_toList] at this
  exact this
def nmAt (es : List (Value × Value)) (j : Nat) : ByteArray := (srtK es).getD j .empty
def encL (es : List (Value × Value)) : Nat → List Int
  | 0 => be es.length 2
  | j + 1 => encL es j ++ (be (nmAt es j).size 2 ++ bts (nmAt es j)) ++ (be (tOf es (nmAt es j)).size 2 ++ bts (tOf es (nmAt es j)))
def encB (es : List (Value × Value)) : ByteArray := tx (encL es es.length)
theorem nmAt_mem {es : List (Value × Value)} {j : Nat} (h : j < es.length) : nmAt es j ∈ srtK es := by
  unfold nmAt
  rw [List.getD_eq_getElem?_getD, List.getElem?_eq_getElem (by rw [srtK_len]; exact h)]
  exact List.getElem_mem _
theorem encL_len {es : List (Value × Value)} (h : Es es) : ∀ {j}, j ≤ es.length → (encL es j).length ≤ 2 + j * 65600
  | 0, _ => by unfold encL; rw [be_len]; omega
  | j + 1, hj => by
    have ih := encL_len h (j := j) (by omega)
    obtain ⟨h1, h2, h3⟩ := h.at_ (nmAt_mem (es := es) (j := j) (by omega))
    unfold encL
    simp only [List.length_append, be_len, bts_len]
    omega
theorem bytesW {es : List (Value × Value)} (h : Es es) : fnVC CT mcbytes [.mp 1] ⟨[(1, some ⟨false, .mp (.map es)⟩)], x⟩ 2 fun v H' n' => Sub 2 ⟨[(0, .v (.string (encB es)))], ⟨[], x⟩, 2⟩ ⟨[(0, v)], H', n'⟩ := by
  have hlen := h.len
  unfold mcbytes
  simp -implicitDefEqProofs only [↓fnVC, initTm]
  simp -implicitDefEqProofs only [go_sem]
  refine in_call mixT tWTwo ?_
  unfold mWTwo
  simp -implicitDefEqProofs only [↓fnVC, initTm]
  simp -implicitDefEqProofs only [go_sem]
  refine at_call tWNumber (wNum0S (i := 2) (k := 2) (y := es.length) (by rfl) (by decide) (by decide) (by decide) (by omega) (fun _ => by omega)) ?_
  simp -implicitDefEqProofs only [go_sem]
  refine at_call tcnames (namesS (i := 1) (by rfl) rfl (by decide) h.keys (fun e he => Nat.le_trans (h.kl e he) (by decide)) (by omega) (by decide)) ?_
  simp -implicitDefEqProofs only [go_sem]
  refine loop_fam (fun (j : Nat) => j ≤ es.length) (fun j => ⟨[(0, .mp 1), (3, .ptr 2 0), (12, .sl 4 0 es.length 1), (13, .v (.int .i64 es.length)), (14, .v (.int .i64 j))], ⟨[(1, some ⟨false, .mp (.map es)⟩), (2, some (wrO 3 (encL es j).length false)), (3, some ⟨true, .ints .u8 (encL es j)⟩), (4, some ⟨true, .strs (srtK es)⟩)], x⟩, 5⟩) (fun j => es.length - j) 0 (Nat.zero_le _) ?_ ?_
  · unfold wrO
    refine sub_mk [] rfl rfl rfl ?_
    simp only [tmSub, hpSub, objSub, eqTm, eqHp, rn, lk, SV.ren, SV.renC, SV.renB, SV.renA, ren_ints, ren_strs, ren_pl, ren_svs, SV.v.injEq, Value.int.injEq, Body.ints.injEq, SV.ptr.injEq, SV.sl.injEq, Value.string.injEq, Value.bool.injEq, List.map_cons, List.map_nil, forall_const, Nat.reduceLT, Nat.lt_add_one, imp_self, true_and, and_true, and_self, ob_some, get_mk, lk_cons, ↓reduceIte, Nat.reduceEqDiff, ne_eq, not_true_eq_false, not_false_eq_true, Nat.one_ne_zero, Nat.zero_ne_one, Nat.succ_ne_self, Nat.reduceAdd, Bool.false_eq_true, false_implies, implies_true, reduceCtorEq]
    repeat' (first | rfl | apply And.intro)
  · intro j hj
    simp -implicitDefEqProofs only [go_sem]
    refine condK_bb (fun c => ?_) (fun c => ?_)
    · have c1 : j < es.length := by have := of_decide_eq_true c; omega
      have hb := encL_len h hj
      obtain ⟨h1, h2, h3⟩ := h.at_ (nmAt_mem c1)
      have w2 : IntKind.i64.wrap ((j : Int) + 1) = ((j + 1 : Nat) : Int) := by rw [wrap_i64 (by omega) (by omega)]; omega
      have hnm : (srtK es).getD j .empty = nmAt es j := rfl
      have hsl : j < (srtK es).length := by rw [srtK_len]; exact c1
      simp -implicitDefEqProofs only [go_sem, c]
      refine ⟨⟨by omega, by omega⟩, hsl, ?_⟩
      rw [hnm]
      refine at_call tWText (wTextS (i := 2) (r := 3) (s := nmAt es j) (bs := encL es j) (by omega) (by omega) (by rfl) (by rfl) (by decide) (by decide) (by decide) (by decide)) ?_
      have hk := h.keys
      simp -implicitDefEqProofs only [go_sem, asM_so, hk, hnm]
      rw [h1]
      simp -implicitDefEqProofs only [go_sem, luV_v, Option.getD_some, elemSV]
      refine at_call tWText (wTextS (i := 2) (r := 5) (s := tOf es (nmAt es j)) (bs := encL es j ++ (be (nmAt es j).size 2 ++ bts (nmAt es j))) (by omega) (by simp only [List.length_append, be_len, bts_len]; omega) (by rfl) (by rfl) (by decide) (by decide) (by decide) (by decide)) ?_
      simp -implicitDefEqProofs only [go_sem, w2]
      refine kLoop_mk (j + 1) (by omega) (by omega) ?_
      unfold wrO
      refine sub_mk [(3, 6)] rfl rfl rfl ?_
      simp only [tmSub, hpSub, objSub, eqTm, eqHp, rn, lk, SV.ren, SV.renC, SV.renB, SV.renA, ren_ints, ren_strs, ren_pl, ren_svs, SV.v.injEq, Value.int.injEq, Body.ints.injEq, SV.ptr.injEq, SV.sl.injEq, Value.string.injEq, Value.bool.injEq, List.map_cons, List.map_nil, forall_const, Nat.reduceLT, Nat.lt_add_one, imp_self, true_and, and_true, and_self, ob_some, get_mk, lk_cons, ↓reduceIte, Nat.reduceEqDiff, ne_eq, not_true_eq_false, not_false_eq_true, Nat.one_ne_zero, Nat.zero_ne_one, Nat.succ_ne_self, Nat.reduceAdd, Bool.false_eq_true, false_implies, implies_true, reduceCtorEq]
      repeat' (first | rfl | apply And.intro)
    · have c1 : j = es.length := by have := of_decide_eq_false c; omega
      subst c1
      simp -implicitDefEqProofs only [go_sem, c]
      refine at_call tWBytes (wBytesS (i := 2) (r := 3) (bs := encL es es.length) (bad := false) (by rfl) (by rfl) (by decide) rfl) ?_
      rw [if_neg Bool.false_ne_true]
      simp -implicitDefEqProofs only [go_sem]
      refine sub_mk [] rfl rfl rfl ?_
      simp only [tmSub, hpSub, objSub, eqTm, eqHp, rn, lk, SV.ren, SV.renC, SV.renB, SV.renA, ren_ints, ren_strs, ren_pl, ren_svs, SV.v.injEq, Value.int.injEq, Body.ints.injEq, SV.ptr.injEq, SV.sl.injEq, Value.string.injEq, Value.bool.injEq, List.map_cons, List.map_nil, forall_const, Nat.reduceLT, Nat.lt_add_one, imp_self, true_and, and_true, and_self, ob_some, get_mk, lk_cons, ↓reduceIte, Nat.reduceEqDiff, ne_eq, not_true_eq_false, not_false_eq_true, Nat.one_ne_zero, Nat.zero_ne_one, Nat.succ_ne_self, Nat.reduceAdd, Bool.false_eq_true, false_implies, implies_true, reduceCtorEq]
      rfl
end
section
/- Cells: Get, Put, Drop, Undo. -/
set_option linter.unusedVariables false
set_option linter.unusedSimpArgs false
set_option maxRecDepth 100000
open Go.Proofs
variable {H : Hp} {n : Nat} {x : Nat → Option SO} {i : Nat} {d : Fd}
structure Ce where
  base : Nat
  half : Nat
  num : Nat
  last : Nat
  dead : Bool
  now : List (Value × Value)
  was : List (Value × Value)
def cellB (C : Ce) (D M W : Nat) : Body := .sv [.ptr D 0, .v (.int .i64 C.base), .v (.int .i64 C.half), .mp M, .mp W, .v (.int .i64 C.num), .v (.int .i64 C.last), .v (.bool C.dead)]
def ceL (C : Ce) (d : Fd) : List (Nat × Option SO) := (1, some ⟨true, cellB C 2 6 7⟩) :: devL d 2 3 4 5 [(6, some ⟨true, .mp (.map C.now)⟩), (7, some ⟨true, .mp (.map C.was)⟩)]
def ceH (C : Ce) (d : Fd) (x : Nat → Option SO) : Hp := ⟨ceL C d, x⟩
def getV (es : List (Value × Value)) (name : ByteArray) : SV := .tup [.v (.string (tOf es name)), .v (.bool (luS es name).isSome)]
theorem lu_mem {es : List (Value × Value)} {s : ByteArray} {v : Value} (h : luS es s = some v) : ∃ e ∈ es, e.2 = v := by
  induction es with
  | nil => cases h
  | cons e es ih =>
    unfold luS at h
    split at h
    · cases h; exact ⟨e, List.mem_cons_self .., rfl⟩
    · obtain ⟨e', h1, h2⟩ := ih h; exact ⟨e', List.mem_cons_of_mem _ h1, h2⟩
theorem Es.lu {es : List (Value × Value)} (h : Es es) (name : ByteArray) : (luS es name = none ∧ tOf es name = ⟨#[]⟩) ∨ luS es name = some (.agg ⟨[.string (tOf es name)]⟩) := by
  cases hl : luS es name with
  | none => exact .inl ⟨rfl, by unfold tOf; rw [hl]⟩
  | some v =>
    right
    obtain ⟨e, he, rfl⟩ := lu_mem hl
    obtain ⟨t, ht, _⟩ := h.vals e he
    have : tOf es name = t := by unfold tOf; rw [hl, ht]
    rw [this, ht]
theorem Es.get {es : List (Value × Value)} (h : Es es) (name : ByteArray) : luV (luS es name) (.agg ⟨[.string ⟨#[]⟩]⟩) true = .tup [.agg [.v (.string (tOf es name))], .v (.bool (luS es name).isSome)] := by
  rcases h.lu name with ⟨h1, h2⟩ | h1
  · rw [h1, h2]; rfl
  · rw [h1]; rfl
theorem Es.el {es : List (Value × Value)} (h : Es es) (name : ByteArray) : elemSV ((luS es name).getD (.agg ⟨[.string ⟨#[]⟩]⟩)) = .agg [.v (.string (tOf es name))] := by
  rcases h.lu name with ⟨h1, h2⟩ | h1
  · rw [h1, h2]; rfl
  · rw [h1]; rfl
def putE (es : List (Value × Value)) (name text : ByteArray) : Int :=
  if name.size = 0 ∨ 32 < name.size then 1 else if 65535 < text.size then 4 else if (luS es name).isSome = false ∧ 64 ≤ es.length then 6 else 0
def putEs (es : List (Value × Value)) (name text : ByteArray) : List (Value × Value) := if putE es name text = 0 then upS es name (.agg ⟨[.string text]⟩) else es
theorem spl1 {a b : SV} : splice [a] 0 [b] = [b] := rfl
theorem putE_1 {es : List (Value × Value)} {name text : ByteArray} (h : name.size = 0 ∨ 32 < name.size) : putE es name text = 1 := if_pos h
theorem putW {C : Ce} {name text : ByteArray} (h : Es C.now) : fnVC CT mCPut [.ptr 1 0, .v (.string name), .v (.string text)] (ceH C d x) 8 fun v H' n' => Sub 8 ⟨[(0, .v (.int .i64 (putE C.now name text)))], ceH { C with now := putEs C.now name text } d x, 8⟩ ⟨[(0, v)], H', n'⟩ := by
  have hk := h.keys
  have hg := h.el name
  have hlen := h.len
  have keep : ∀ {e : Int}, e ≠ 0 → putE C.now name text = e → ceH { C with now := putEs C.now name text } d x = ceH C d x := fun h0 h1 => by
    unfold putEs; rw [if_neg (by rw [h1]; exact h0)]
  unfold mCPut
  rw [show ceH C d x = ⟨ceL C d, x⟩ from rfl]
  unfold ceL devL cellB
  simp -implicitDefEqProofs only [↓fnVC, initTm]
  simp -implicitDefEqProofs only [go_sem]
  refine in_call mixT tCGet ?_
  unfold mCGet
  simp -implicitDefEqProofs only [↓fnVC, initTm]
  simp -implicitDefEqProofs only [go_sem, asM_so, hk, hg, spl1]
  by_cases c1 : name.size = 0
  · have a1 : seq name ⟨#[]⟩ = true := seq_emp c1
    simp -implicitDefEqProofs only [go_sem, a1]
    rw [keep (by decide) (putE_1 (.inl c1)), putE_1 (.inl c1)]
    unfold ceH ceL devL cellB
    refine sub_mk [] rfl rfl rfl ?_
    simp only [tmSub, hpSub, objSub, eqTm, eqHp, rn, lk, SV.ren, SV.renC, SV.renB, SV.renA, ren_ints, ren_strs, ren_pl, ren_svs, SV.v.injEq, Value.int.injEq, Body.ints.injEq, SV.ptr.injEq, SV.sl.injEq, Value.string.injEq, Value.bool.injEq, List.map_cons, List.map_nil, forall_const, Nat.reduceLT, Nat.lt_add_one, imp_self, true_and, and_true, and_self, ob_some, get_mk, lk_cons, ↓reduceIte, Nat.reduceEqDiff, ne_eq, not_true_eq_false, not_false_eq_true, Nat.one_ne_zero, Nat.zero_ne_one, Nat.succ_ne_self, Nat.reduceAdd, Bool.false_eq_true, false_implies, implies_true, reduceCtorEq]
    repeat' (first | rfl | apply And.intro)
  have a1 : seq name ⟨#[]⟩ = false := seq_nemp c1
  by_cases c2 : 32 < name.size
  · have a2 : decide ((name.size : Int) > 32) = true := decide_eq_true (by omega)
    simp -implicitDefEqProofs only [go_sem, a1, a2]
    rw [keep (by decide) (putE_1 (.inr c2)), putE_1 (.inr c2)]
    unfold ceH ceL devL cellB
    refine sub_mk [] rfl rfl rfl ?_
    simp only [tmSub, hpSub, objSub, eqTm, eqHp, rn, lk, SV.ren, SV.renC, SV.renB, SV.renA, ren_ints, ren_strs, ren_pl, ren_svs, SV.v.injEq, Value.int.injEq, Body.ints.injEq, SV.ptr.injEq, SV.sl.injEq, Value.string.injEq, Value.bool.injEq, List.map_cons, List.map_nil, forall_const, Nat.reduceLT, Nat.lt_add_one, imp_self, true_and, and_true, and_self, ob_some, get_mk, lk_cons, ↓reduceIte, Nat.reduceEqDiff, ne_eq, not_true_eq_false, not_false_eq_true, Nat.one_ne_zero, Nat.zero_ne_one, Nat.succ_ne_self, Nat.reduceAdd, Bool.false_eq_true, false_implies, implies_true, reduceCtorEq]
    repeat' (first | rfl | apply And.intro)
  have a2 : decide ((name.size : Int) > 32) = false := decide_eq_false (by omega)
  simp -implicitDefEqProofs only [go_sem, a1, a2]
  by_cases c3 : 65535 < text.size
  · have a3 : decide ((text.size : Int) > 65535) = true := decide_eq_true (by omega)
    have he : putE C.now name text = 4 := by unfold putE; rw [if_neg (by omega), if_pos c3]
    simp -implicitDefEqProofs only [go_sem, a3]
    rw [keep (by decide) he, he]
    unfold ceH ceL devL cellB
    refine sub_mk [] rfl rfl rfl ?_
    simp only [tmSub, hpSub, objSub, eqTm, eqHp, rn, lk, SV.ren, SV.renC, SV.renB, SV.renA, ren_ints, ren_strs, ren_pl, ren_svs, SV.v.injEq, Value.int.injEq, Body.ints.injEq, SV.ptr.injEq, SV.sl.injEq, Value.string.injEq, Value.bool.injEq, List.map_cons, List.map_nil, forall_const, Nat.reduceLT, Nat.lt_add_one, imp_self, true_and, and_true, and_self, ob_some, get_mk, lk_cons, ↓reduceIte, Nat.reduceEqDiff, ne_eq, not_true_eq_false, not_false_eq_true, Nat.one_ne_zero, Nat.zero_ne_one, Nat.succ_ne_self, Nat.reduceAdd, Bool.false_eq_true, false_implies, implies_true, reduceCtorEq]
    repeat' (first | rfl | apply And.intro)
  have a3 : decide ((text.size : Int) > 65535) = false := decide_eq_false (by omega)
  simp -implicitDefEqProofs only [go_sem, a3]
  by_cases c4 : (luS C.now name).isSome = false ∧ 64 ≤ C.now.length
  · have a4 : decide ((C.now.length : Int) ≥ 64) = true := decide_eq_true (by omega)
    have he : putE C.now name text = 6 := by unfold putE; rw [if_neg (by omega), if_neg c3, if_pos c4]
    have a5 := c4.1
    simp -implicitDefEqProofs only [go_sem, a4, a5, asM_so]
    rw [keep (by decide) he, he]
    unfold ceH ceL devL cellB
    refine sub_mk [] rfl rfl rfl ?_
    simp only [tmSub, hpSub, objSub, eqTm, eqHp, rn, lk, SV.ren, SV.renC, SV.renB, SV.renA, ren_ints, ren_strs, ren_pl, ren_svs, SV.v.injEq, Value.int.injEq, Body.ints.injEq, SV.ptr.injEq, SV.sl.injEq, Value.string.injEq, Value.bool.injEq, List.map_cons, List.map_nil, forall_const, Nat.reduceLT, Nat.lt_add_one, imp_self, true_and, and_true, and_self, ob_some, get_mk, lk_cons, ↓reduceIte, Nat.reduceEqDiff, ne_eq, not_true_eq_false, not_false_eq_true, Nat.one_ne_zero, Nat.zero_ne_one, Nat.succ_ne_self, Nat.reduceAdd, Bool.false_eq_true, false_implies, implies_true, reduceCtorEq]
    repeat' (first | rfl | apply And.intro)
  have he : putE C.now name text = 0 := by unfold putE; rw [if_neg (by omega), if_neg c3, if_neg c4]
  have hes : putEs C.now name text = upS C.now name (.agg ⟨[.string text]⟩) := if_pos he
  rw [he, hes]
  cases a5 : (luS C.now name).isSome with
  | true =>
    simp -implicitDefEqProofs only [go_sem, a5, asM_so, hk, spl1]
    unfold ceH ceL devL cellB
    refine sub_mk [] rfl rfl rfl ?_
    simp only [tmSub, hpSub, objSub, eqTm, eqHp, rn, lk, SV.ren, SV.renC, SV.renB, SV.renA, ren_ints, ren_strs, ren_pl, ren_svs, SV.v.injEq, Value.int.injEq, Body.ints.injEq, SV.ptr.injEq, SV.sl.injEq, Value.string.injEq, Value.bool.injEq, List.map_cons, List.map_nil, forall_const, Nat.reduceLT, Nat.lt_add_one, imp_self, true_and, and_true, and_self, ob_some, get_mk, lk_cons, ↓reduceIte, Nat.reduceEqDiff, ne_eq, not_true_eq_false, not_false_eq_true, Nat.one_ne_zero, Nat.zero_ne_one, Nat.succ_ne_self, Nat.reduceAdd, Bool.false_eq_true, false_implies, implies_true, reduceCtorEq]
    repeat' (first | rfl | apply And.intro)
  | false =>
    have a4 : decide ((C.now.length : Int) ≥ 64) = false := decide_eq_false (fun h => c4 ⟨a5, by omega⟩)
    simp -implicitDefEqProofs only [go_sem, a4, a5, asM_so, hk, spl1]
    unfold ceH ceL devL cellB
    refine sub_mk [] rfl rfl rfl ?_
    simp only [tmSub, hpSub, objSub, eqTm, eqHp, rn, lk, SV.ren, SV.renC, SV.renB, SV.renA, ren_ints, ren_strs, ren_pl, ren_svs, SV.v.injEq, Value.int.injEq, Body.ints.injEq, SV.ptr.injEq, SV.sl.injEq, Value.string.injEq, Value.bool.injEq, List.map_cons, List.map_nil, forall_const, Nat.reduceLT, Nat.lt_add_one, imp_self, true_and, and_true, and_self, ob_some, get_mk, lk_cons, ↓reduceIte, Nat.reduceEqDiff, ne_eq, not_true_eq_false, not_false_eq_true, Nat.one_ne_zero, Nat.zero_ne_one, Nat.succ_ne_self, Nat.reduceAdd, Bool.false_eq_true, false_implies, implies_true, reduceCtorEq]
    repeat' (first | rfl | apply And.intro)
theorem dropW {C : Ce} {name : ByteArray} (h : Es C.now) : fnVC CT mCDrop [.ptr 1 0, .v (.string name)] (ceH C d x) 8 fun v H' n' => Sub 8 ⟨[(0, .v (.bool (luS C.now name).isSome))], ceH { C with now := dlS C.now name } d x, 8⟩ ⟨[(0, v)], H', n'⟩ := by
  have hk := h.keys
  have hg := h.el name
  have hno : ∀ {es : List (Value × Value)}, luS es name = none → dlS es name = es := by
    intro es
    induction es with
    | nil => intro _; rfl
    | cons e es ih =>
      intro hl
      unfold luS at hl
      unfold dlS
      split at hl
      · cases hl
      · rename_i hc; rw [if_neg hc, ih hl]
  unfold mCDrop
  rw [show ceH C d x = ⟨ceL C d, x⟩ from rfl]
  unfold ceL devL cellB
  simp -implicitDefEqProofs only [↓fnVC, initTm]
  simp -implicitDefEqProofs only [go_sem]
  refine in_call mixT tCGet ?_
  unfold mCGet
  simp -implicitDefEqProofs only [↓fnVC, initTm]
  simp -implicitDefEqProofs only [go_sem, asM_so, hk, hg, spl1]
  cases a5 : (luS C.now name).isSome with
  | true =>
    simp -implicitDefEqProofs only [go_sem, a5, asM_so, hk, spl1]
    unfold ceH ceL devL cellB
    refine sub_mk [] rfl rfl rfl ?_
    simp only [tmSub, hpSub, objSub, eqTm, eqHp, rn, lk, SV.ren, SV.renC, SV.renB, SV.renA, ren_ints, ren_strs, ren_pl, ren_svs, SV.v.injEq, Value.int.injEq, Body.ints.injEq, SV.ptr.injEq, SV.sl.injEq, Value.string.injEq, Value.bool.injEq, List.map_cons, List.map_nil, forall_const, Nat.reduceLT, Nat.lt_add_one, imp_self, true_and, and_true, and_self, ob_some, get_mk, lk_cons, ↓reduceIte, Nat.reduceEqDiff, ne_eq, not_true_eq_false, not_false_eq_true, Nat.one_ne_zero, Nat.zero_ne_one, Nat.succ_ne_self, Nat.reduceAdd, Bool.false_eq_true, false_implies, implies_true, reduceCtorEq]
    repeat' (first | rfl | apply And.intro)
  | false =>
    rw [show dlS C.now name = C.now from hno (by cases hq : luS C.now name with | none => rfl | some v => rw [hq] at a5; cases a5)]
    simp -implicitDefEqProofs only [go_sem, a5, asM_so, hk, spl1]
    unfold ceH ceL devL cellB
    refine sub_mk [] rfl rfl rfl ?_
    simp only [tmSub, hpSub, objSub, eqTm, eqHp, rn, lk, SV.ren, SV.renC, SV.renB, SV.renA, ren_ints, ren_strs, ren_pl, ren_svs, SV.v.injEq, Value.int.injEq, Body.ints.injEq, SV.ptr.injEq, SV.sl.injEq, Value.string.injEq, Value.bool.injEq, List.map_cons, List.map_nil, forall_const, Nat.reduceLT, Nat.lt_add_one, imp_self, true_and, and_true, and_self, ob_some, get_mk, lk_cons, ↓reduceIte, Nat.reduceEqDiff, ne_eq, not_true_eq_false, not_false_eq_true, Nat.one_ne_zero, Nat.zero_ne_one, Nat.succ_ne_self, Nat.reduceAdd, Bool.false_eq_true, false_implies, implies_true, reduceCtorEq]
    repeat' (first | rfl | apply And.intro)
end
section
/- Cells: a copy is written. -/
set_option linter.unusedVariables false
set_option linter.unusedSimpArgs false
set_option maxRecDepth 100000
open Go.Proofs
variable {H : Hp} {n : Nat} {x : Nat → Option SO} {i : Nat} {d d' : Fd}
def ceD (C : Ce) (d : Fd) (x : Nat → Option SO) : Hp := ⟨[(1, some ⟨true, cellB C 2 6 7⟩), (2, some ⟨true, devB d 8 9 10⟩), (3, none), (4, none), (5, none), (6, some ⟨true, .mp (.map C.now)⟩), (7, some ⟨true, .mp (.map C.was)⟩), (8, some ⟨true, secB d.seen⟩), (9, some ⟨true, secB d.safe⟩), (10, some ⟨true, .pl (prow d.pend)⟩)], x⟩
theorem spl2 {a b c e : SV} : splice (splice [a, b] 0 [c]) 1 [e] = [c, e] := rfl
theorem spl2' {a b c e : SV} : splice [a, b] 0 [c, e] = [c, e] := rfl
theorem spl2m {a b : SV} {u v : Value} : splice [a, b] 0 (List.map SV.v [u, v]) = [.v u, .v v] := rfl
theorem spl21 {a b c : SV} : splice [a, b] 1 [c] = [a, c] := rfl
theorem cws_no {at_ : Int} {I : ByteArray} {p : Int × Fd} (h : p.1 ≠ 0) : ∀ j, cws at_ I p j = p
  | 0 => rfl
  | j + 1 => by
    show thn (cws at_ I p j) _ = p
    rw [cws_no h j]; exact thn_no h
theorem slW_1 {at_ : Int} {I Q : ByteArray} (h : (wrT d at_ ⟨#[]⟩).1 ≠ 0) : slW at_ Q I d = wrT d at_ ⟨#[]⟩ := by
  have e1 : p1 at_ d = wrT d at_ ⟨#[]⟩ := thn_no h
  have e2 : ∀ j, pC at_ I d j = wrT d at_ ⟨#[]⟩ := fun j => by unfold pC; rw [e1]; exact cws_no h j
  unfold slW p3 p2
  rw [e2, thn_no h, thn_no h, thn_no h]
theorem slW_2 {at_ : Int} {I Q : ByteArray} (h : (p1 at_ d).1 ≠ 0) : slW at_ Q I d = p1 at_ d := by
  have e2 : ∀ j, pC at_ I d j = p1 at_ d := fun j => cws_no h j
  unfold slW p3 p2
  rw [e2, thn_no h, thn_no h, thn_no h]
theorem cws_add {at_ : Int} {I : ByteArray} {p : Int × Fd} {j : Nat} (h : (cws at_ I p j).1 ≠ 0) : ∀ k, cws at_ I p (j + k) = cws at_ I p j
  | 0 => rfl
  | k + 1 => by
    show thn (cws at_ I p (j + k)) _ = _
    rw [cws_add h k]; exact thn_no h
theorem slW_3 {at_ : Int} {I Q : ByteArray} {j : Nat} (hj : j ≤ nCh I) (h : (pC at_ I d j).1 ≠ 0) : slW at_ Q I d = pC at_ I d j := by
  have e2 : pC at_ I d (nCh I) = pC at_ I d j := by
    obtain ⟨k, hk⟩ : ∃ k, nCh I = j + k := ⟨nCh I - j, by omega⟩
    rw [hk]; exact cws_add h k
  unfold slW p3 p2
  rw [e2, thn_no h, thn_no h, thn_no h]
theorem slW_4 {at_ : Int} {I Q : ByteArray} (h : (p2 at_ I d).1 ≠ 0) : slW at_ Q I d = p2 at_ I d := by
  unfold slW p3
  rw [thn_no h, thn_no h]
theorem slW_5 {at_ : Int} {I Q : ByteArray} (h : (p3 at_ Q I d).1 ≠ 0) : slW at_ Q I d = p3 at_ Q I d := thn_no h
set_option maxHeartbeats 2000000 in
theorem cwriteW {C : Ce} {first m t : Nat} {I Q : ByteArray} (hP : Pl d m t) (ht : t + 1000 < 1000000) (hI0 : 0 < I.size) (hI : I.size ≤ 8192) (hQ0 : 0 < Q.size) (hQ : Q.size ≤ 64) (hf : first ≤ 1000000) :
    fnVC CT mCwrite [.ptr 1 0, .v (.int .i64 first), .v (.string I), .v (.string Q)] (ceH C d x) 8 fun v H' n' => Sub 8 ⟨[(0, .v (.int .i64 (slW first Q I d).1))], ceD C (slW first Q I d).2 x, 11⟩ ⟨[(0, v)], H', n'⟩ := by
  unfold mCwrite
  rw [show ceH C d x = ⟨ceL C d, x⟩ from rfl]
  unfold ceL devL cellB
  have w1 : IntKind.i64.wrap ((first : Int) + 1) = ((first + 1 : Nat) : Int) := by rw [wrap_i64 (by omega) (by omega)]; omega
  simp -implicitDefEqProofs only [↓fnVC, initTm]
  simp -implicitDefEqProofs only [go_sem, w1, spl2, List.cons_append]
  refine loop_roll 4 ?_
  rw [LoopU_succ]
  have f0 : decide ((0 : Int) < ((3 : Nat) : Int)) = true := rfl
  have f1 : decide ((1 : Int) < ((3 : Nat) : Int)) = true := rfl
  have f2 : decide ((2 : Int) < ((3 : Nat) : Int)) = true := rfl
  have f3 : decide ((3 : Int) < ((3 : Nat) : Int)) = false := rfl
  have g0 : IntKind.i64.wrap (0 + 1) = 1 := rfl
  have g1 : IntKind.i64.wrap (1 + 1) = 2 := rfl
  have g2 : IntKind.i64.wrap (2 + 1) = 3 := rfl
  have nil0 : (⟨#[]⟩ : ByteArray).extract 0 0 = ⟨#[]⟩ := ba_zero (by rw [ex_size]; rfl)
  simp -implicitDefEqProofs only [go_sem, f0, spl2, spl2']
  refine ⟨by decide, ?_⟩
  simp -implicitDefEqProofs only [go_sem, spl2m]
  have nsz : min ((#[] : Array UInt8).size : Int) 64 = ((0 : Nat) : Int) := rfl
  have nil1 : (⟨#[]⟩ : ByteArray).extract 0 (#[] : Array UInt8).size = ⟨#[]⟩ := ba_zero (by rw [ex_size]; rfl)
  have emp : seq (⟨#[]⟩ : ByteArray) ⟨#[]⟩ = true := seq_self _
  refine loop_roll 1 ?_
  rw [LoopU_succ]
  simp -implicitDefEqProofs only [go_sem, spl2m, nsz, nil0]
  refine ⟨⟨by decide, by decide⟩, ?_⟩
  obtain ⟨⟨e1, d1⟩, hq1⟩ : ∃ q, wrT d first ⟨#[]⟩ = q := ⟨_, rfl⟩
  have hP1 : Pl d1 m (t + 1) := by have := wrT_pl (k := first) (s := ⟨#[]⟩) hP (by omega); rw [hq1] at this; exact this
  refine at_call tFWrite (wrTS (i := 2) (a := 3) (b := 4) (c := 5) ⟨by rfl, by rfl, by rfl, by rfl, by decide⟩ hP (by omega) (by decide) hq1) ?_
  by_cases x1 : e1 = 0
  rotate_left
  · have b1 : decide (e1 = 0) = false := decide_eq_false x1
    simp -implicitDefEqProofs only [go_sem, b1]
    rw [show slW first Q I d = (e1, d1) from (slW_1 (by rw [hq1]; exact x1)).trans hq1]
    unfold ceD cellB
    refine sub_mk [(8, 10), (9, 11), (10, 12)] rfl rfl rfl ?_
    simp only [tmSub, hpSub, objSub, eqTm, eqHp, rn, lk, SV.ren, SV.renC, SV.renB, SV.renA, ren_ints, ren_strs, ren_pl, ren_svs, SV.v.injEq, Value.int.injEq, Body.ints.injEq, SV.ptr.injEq, SV.sl.injEq, Value.string.injEq, Value.bool.injEq, List.map_cons, List.map_nil, forall_const, Nat.reduceLT, Nat.lt_add_one, imp_self, true_and, and_true, and_self, ob_some, get_mk, lk_cons, ↓reduceIte, Nat.reduceEqDiff, ne_eq, not_true_eq_false, not_false_eq_true, Nat.one_ne_zero, Nat.zero_ne_one, Nat.succ_ne_self, Nat.reduceAdd, Bool.false_eq_true, false_implies, implies_true, reduceCtorEq]
    repeat' (first | rfl | apply And.intro)
  have b1 : decide (e1 = 0) = true := decide_eq_true x1
  simp -implicitDefEqProofs only [go_sem, b1, nil1, emp, spl21]
  refine ⟨⟨by decide, by decide, by decide⟩, ?_⟩
  obtain ⟨⟨e2, d2⟩, hq2⟩ : ∃ q, baT d1 = q := ⟨_, rfl⟩
  have hP2 : Pl d2 m (t + 2) := by have := baT_pl hP1 (by omega); rw [hq2] at this; exact this
  refine at_call tFBarrier (baTS (i := 2) (a := 10) (b := 11) (c := 12) ⟨by rfl, by rfl, by rfl, by rfl, by decide⟩ hP1 (by omega) (by decide) hq2) ?_
  have hp1 : p1 first d = (e2, d2) := by unfold p1; rw [thn_ok (by rw [hq1]; exact x1), hq1]; exact hq2
  by_cases x2 : e2 = 0
  rotate_left
  · have b2 : decide (e2 = 0) = false := decide_eq_false x2
    simp -implicitDefEqProofs only [go_sem, b2]
    rw [show slW first Q I d = (e2, d2) from (slW_2 (by rw [hp1]; exact x2)).trans hp1]
    unfold ceD cellB
    refine sub_mk [(8, 13), (9, 14), (10, 15)] rfl rfl rfl ?_
    simp only [tmSub, hpSub, objSub, eqTm, eqHp, rn, lk, SV.ren, SV.renC, SV.renB, SV.renA, ren_ints, ren_strs, ren_pl, ren_svs, SV.v.injEq, Value.int.injEq, Body.ints.injEq, SV.ptr.injEq, SV.sl.injEq, Value.string.injEq, Value.bool.injEq, List.map_cons, List.map_nil, forall_const, Nat.reduceLT, Nat.lt_add_one, imp_self, true_and, and_true, and_self, ob_some, get_mk, lk_cons, ↓reduceIte, Nat.reduceEqDiff, ne_eq, not_true_eq_false, not_false_eq_true, Nat.one_ne_zero, Nat.zero_ne_one, Nat.succ_ne_self, Nat.reduceAdd, Bool.false_eq_true, false_implies, implies_true, reduceCtorEq]
    repeat' (first | rfl | apply And.intro)
  have b2 : decide (e2 = 0) = true := decide_eq_true x2
  simp -implicitDefEqProofs only [go_sem, b2, g0]
  rw [LoopU_succ]
  simp -implicitDefEqProofs only [go_sem, f1, spl2']
  refine ⟨by decide, ?_⟩
  simp -implicitDefEqProofs only [go_sem, spl2m, g0]
  refine loop_fam (fun (q : Nat × Fd) => pC first I d q.1 = (0, q.2) ∧ q.1 < nCh I ∧ Pl q.2 m (t + 2 + q.1))
    (fun q => ⟨[(0, .ptr 1 0), (10, .ptr 16 0), (11, .v (.int .i64 ((first : Int) + 1 + q.1))), (24, .sl 8 0 3 2), (25, .v (.int .i64 (3 : Nat))), (26, .v (.int .i64 1))],
      ⟨[(1, some ⟨true, cellB C 2 6 7⟩), (2, some ⟨true, devB q.2 13 14 15⟩), (6, some ⟨true, .mp (.map C.now)⟩), (7, some ⟨true, .mp (.map C.was)⟩), (8, some ⟨true, .pl [.int .i64 first, .string ⟨#[]⟩, .int .i64 (first + 1 : Nat), .string I, .int .i64 first, .string Q]⟩), (13, some ⟨true, secB q.2.seen⟩), (14, some ⟨true, secB q.2.safe⟩), (15, some ⟨true, .pl (prow q.2.pend)⟩), (16, some ⟨true, .sv [.v (.int .i64 (first + 1 : Nat)), .v (.string (I.extract (64 * q.1) I.size))]⟩)], x⟩, 17⟩)
    (fun q => nCh I - q.1) (0, d2) ⟨by show p1 first d = _; rw [hp1, x2], nCh_lt.2 (by omega), hP2⟩ ?_ ?_
  · have hII : I.extract (64 * 0) I.size = I := ext_all I
    unfold cellB
    refine sub_mk [] rfl rfl rfl ?_
    simp only [tmSub, hpSub, objSub, eqTm, eqHp, rn, lk, SV.ren, SV.renC, SV.renB, SV.renA, ren_ints, ren_strs, ren_pl, ren_svs, SV.v.injEq, Value.int.injEq, Body.ints.injEq, SV.ptr.injEq, SV.sl.injEq, Value.string.injEq, Value.bool.injEq, List.map_cons, List.map_nil, forall_const, Nat.reduceLT, Nat.lt_add_one, imp_self, true_and, and_true, and_self, ob_some, get_mk, lk_cons, ↓reduceIte, Nat.reduceEqDiff, ne_eq, not_true_eq_false, not_false_eq_true, Nat.one_ne_zero, Nat.zero_ne_one, Nat.succ_ne_self, Nat.reduceAdd, Bool.false_eq_true, false_implies, implies_true, reduceCtorEq]
    rw [hII]
    refine ⟨by omega, ?_⟩
    repeat' (first | rfl | apply And.intro)
  rintro ⟨j, dj⟩ ⟨hpj, hj, hPj⟩
  have hpj : pC first I d j = (0, dj) := hpj
  have hj : j < nCh I := hj
  have hPj : Pl dj m (t + 2 + j) := hPj
  have hj64 := nCh_lt.1 hj
  have hnc := nCh_le hI
  have hrz : (I.extract (64 * j) I.size).size = I.size - 64 * j := by rw [ex_size]; omega
  have mn : min (((I.extract (64 * j) I.size).size : Nat) : Int) 64 = ((min (I.size - 64 * j) 64 : Nat) : Int) := by rw [hrz]; omega
  have ml : min (I.size - 64 * j) 64 ≤ I.size - 64 * j := Nat.min_le_left _ _
  have hchk : (I.extract (64 * j) I.size).extract 0 (min (I.size - 64 * j) 64) = chk I j := by
    rw [ext_ext (by omega)]
    unfold chk
    congr 1
    omega
  have hrest : (I.extract (64 * j) I.size).extract (min (I.size - 64 * j) 64) (I.extract (64 * j) I.size).size = I.extract (64 * (j + 1)) I.size := by
    rw [hrz, ext_ext (by omega)]
    by_cases c : 64 * (j + 1) ≤ I.size
    · congr 1 <;> omega
    · have z1 : I.extract (64 * (j + 1)) I.size = ⟨#[]⟩ := ba_zero (by rw [ex_size]; omega)
      have z2 : I.extract (64 * j + min (I.size - 64 * j) 64) (64 * j + (I.size - 64 * j)) = ⟨#[]⟩ := ba_zero (by rw [ex_size]; omega)
      rw [z1, z2]
  have hpn : pC first I d (j + 1) = wrT dj ((first : Int) + 1 + j) (chk I j) := by
    have hpj2 : cws first I (p1 first d) j = (0, dj) := hpj
    show thn (cws first I (p1 first d) j) (fun d => wrT d ((first : Int) + 1 + j) (chk I j)) = _
    rw [hpj2]
    exact thn_ok rfl
  have wj : IntKind.i64.wrap ((first : Int) + 1 + (j : Int) + 1) = (first : Int) + 1 + ((j + 1 : Nat) : Int) := by rw [wrap_i64 (by omega) (by omega)]; omega
  unfold cellB
  simp -implicitDefEqProofs only [go_sem, mn, hchk]
  refine ⟨⟨by omega, by omega⟩, ?_⟩
  obtain ⟨⟨e3, d3⟩, hq3⟩ : ∃ q, wrT dj ((first : Int) + 1 + j) (chk I j) = q := ⟨_, rfl⟩
  have hP3 : Pl d3 m (t + 2 + (j + 1)) := by have := wrT_pl (k := (first : Int) + 1 + j) (s := chk I j) hPj (by omega); rw [hq3] at this; exact this
  refine at_call tFWrite (wrTS (i := 2) (a := 13) (b := 14) (c := 15) ⟨by rfl, by rfl, by rfl, by rfl, by decide⟩ hPj (by omega) (by decide) hq3) ?_
  rw [hq3] at hpn
  by_cases x3 : e3 = 0
  rotate_left
  · have b3 : decide (e3 = 0) = false := decide_eq_false x3
    simp -implicitDefEqProofs only [go_sem, b3]
    rw [show slW first Q I d = (e3, d3) from (slW_3 (j := j + 1) (by omega) (by rw [hpn]; exact x3)).trans hpn]
    unfold ceD cellB
    refine sub_mk [(8, 17), (9, 18), (10, 19)] rfl rfl rfl ?_
    simp only [tmSub, hpSub, objSub, eqTm, eqHp, rn, lk, SV.ren, SV.renC, SV.renB, SV.renA, ren_ints, ren_strs, ren_pl, ren_svs, SV.v.injEq, Value.int.injEq, Body.ints.injEq, SV.ptr.injEq, SV.sl.injEq, Value.string.injEq, Value.bool.injEq, List.map_cons, List.map_nil, forall_const, Nat.reduceLT, Nat.lt_add_one, imp_self, true_and, and_true, and_self, ob_some, get_mk, lk_cons, ↓reduceIte, Nat.reduceEqDiff, ne_eq, not_true_eq_false, not_false_eq_true, Nat.one_ne_zero, Nat.zero_ne_one, Nat.succ_ne_self, Nat.reduceAdd, Bool.false_eq_true, false_implies, implies_true, reduceCtorEq]
    repeat' (first | rfl | apply And.intro)
  have b3 : decide (e3 = 0) = true := decide_eq_true x3
  simp -implicitDefEqProofs only [go_sem, b3, hrest, spl21]
  refine ⟨⟨by omega, by omega, by omega⟩, ?_⟩
  simp -implicitDefEqProofs only [go_sem, b3, hrest, spl21]
  by_cases x4 : 64 * (j + 1) < I.size
  · have hl : seq (I.extract (64 * (j + 1)) I.size) ⟨#[]⟩ = false := seq_nemp (by rw [ex_size]; omega)
    simp -implicitDefEqProofs only [go_sem, hl, wj]
    refine kLoop_mk (j + 1, d3) ⟨by rw [hpn, x3], nCh_lt.2 x4, hP3⟩ (by show nCh I - (j + 1) < nCh I - j; omega) ?_
    refine sub_mk [(13, 17), (14, 18), (15, 19)] rfl rfl rfl ?_
    simp only [tmSub, hpSub, objSub, eqTm, eqHp, rn, lk, SV.ren, SV.renC, SV.renB, SV.renA, ren_ints, ren_strs, ren_pl, ren_svs, SV.v.injEq, Value.int.injEq, Body.ints.injEq, SV.ptr.injEq, SV.sl.injEq, Value.string.injEq, Value.bool.injEq, List.map_cons, List.map_nil, forall_const, Nat.reduceLT, Nat.lt_add_one, imp_self, true_and, and_true, and_self, ob_some, get_mk, lk_cons, ↓reduceIte, Nat.reduceEqDiff, ne_eq, not_true_eq_false, not_false_eq_true, Nat.one_ne_zero, Nat.zero_ne_one, Nat.succ_ne_self, Nat.reduceAdd, Bool.false_eq_true, false_implies, implies_true, reduceCtorEq]
    repeat' (first | rfl | apply And.intro)
  have hl : seq (I.extract (64 * (j + 1)) I.size) ⟨#[]⟩ = true := seq_emp (by rw [ex_size]; omega)
  have hjn : j + 1 = nCh I := by
    have h1 : ¬j + 1 < nCh I := fun h => x4 (nCh_lt.1 h)
    omega
  simp -implicitDefEqProofs only [go_sem, hl]
  obtain ⟨⟨e4, d4⟩, hq4⟩ : ∃ q, baT d3 = q := ⟨_, rfl⟩
  have hP4 : Pl d4 m (t + 2 + (j + 1) + 1) := by have := baT_pl hP3 (by omega); rw [hq4] at this; exact this
  refine at_call tFBarrier (baTS (i := 2) (a := 17) (b := 18) (c := 19) ⟨by rfl, by rfl, by rfl, by rfl, by decide⟩ hP3 (by omega) (by decide) hq4) ?_
  have hp2 : p2 first I d = (e4, d4) := by
    unfold p2
    rw [← hjn, hpn, x3]
    exact hq4
  by_cases x5 : e4 = 0
  rotate_left
  · have b5 : decide (e4 = 0) = false := decide_eq_false x5
    simp -implicitDefEqProofs only [go_sem, b5]
    rw [show slW first Q I d = (e4, d4) from (slW_4 (by rw [hp2]; exact x5)).trans hp2]
    unfold ceD cellB
    refine sub_mk [(8, 20), (9, 21), (10, 22)] rfl rfl rfl ?_
    simp only [tmSub, hpSub, objSub, eqTm, eqHp, rn, lk, SV.ren, SV.renC, SV.renB, SV.renA, ren_ints, ren_strs, ren_pl, ren_svs, SV.v.injEq, Value.int.injEq, Body.ints.injEq, SV.ptr.injEq, SV.sl.injEq, Value.string.injEq, Value.bool.injEq, List.map_cons, List.map_nil, forall_const, Nat.reduceLT, Nat.lt_add_one, imp_self, true_and, and_true, and_self, ob_some, get_mk, lk_cons, ↓reduceIte, Nat.reduceEqDiff, ne_eq, not_true_eq_false, not_false_eq_true, Nat.one_ne_zero, Nat.zero_ne_one, Nat.succ_ne_self, Nat.reduceAdd, Bool.false_eq_true, false_implies, implies_true, reduceCtorEq]
    repeat' (first | rfl | apply And.intro)
  have b5 : decide (e4 = 0) = true := decide_eq_true x5
  simp -implicitDefEqProofs only [go_sem, b5, g1]
  rw [LoopU_succ]
  simp -implicitDefEqProofs only [go_sem, f2, spl2']
  refine ⟨by decide, ?_⟩
  have hQn : min ((Q.size : Nat) : Int) 64 = ((Q.size : Nat) : Int) := by omega
  have hQe : Q.extract 0 Q.size = Q := ext_all Q
  have hQz : seq (Q.extract Q.size Q.size) ⟨#[]⟩ = true := seq_emp (by rw [ex_size]; omega)
  simp -implicitDefEqProofs only [go_sem, spl2m, g1]
  refine loop_roll 1 ?_
  rw [LoopU_succ]
  simp -implicitDefEqProofs only [go_sem, spl2m, hQn, hQe]
  refine ⟨⟨by omega, by omega⟩, ?_⟩
  obtain ⟨⟨e5, d5⟩, hq5⟩ : ∃ q, wrT d4 first Q = q := ⟨_, rfl⟩
  have hP5 : Pl d5 m (t + 2 + (j + 1) + 1 + 1) := by have := wrT_pl (k := first) (s := Q) hP4 (by omega); rw [hq5] at this; exact this
  refine at_call tFWrite (wrTS (i := 2) (a := 20) (b := 21) (c := 22) ⟨by rfl, by rfl, by rfl, by rfl, by decide⟩ hP4 (by omega) (by decide) hq5) ?_
  have hp3 : p3 first Q I d = (e5, d5) := by unfold p3; rw [hp2, x5]; exact hq5
  by_cases x6 : e5 = 0
  rotate_left
  · have b6 : decide (e5 = 0) = false := decide_eq_false x6
    simp -implicitDefEqProofs only [go_sem, b6]
    rw [show slW first Q I d = (e5, d5) from (slW_5 (by rw [hp3]; exact x6)).trans hp3]
    unfold ceD cellB
    refine sub_mk [(8, 24), (9, 25), (10, 26)] rfl rfl rfl ?_
    simp only [tmSub, hpSub, objSub, eqTm, eqHp, rn, lk, SV.ren, SV.renC, SV.renB, SV.renA, ren_ints, ren_strs, ren_pl, ren_svs, SV.v.injEq, Value.int.injEq, Body.ints.injEq, SV.ptr.injEq, SV.sl.injEq, Value.string.injEq, Value.bool.injEq, List.map_cons, List.map_nil, forall_const, Nat.reduceLT, Nat.lt_add_one, imp_self, true_and, and_true, and_self, ob_some, get_mk, lk_cons, ↓reduceIte, Nat.reduceEqDiff, ne_eq, not_true_eq_false, not_false_eq_true, Nat.one_ne_zero, Nat.zero_ne_one, Nat.succ_ne_self, Nat.reduceAdd, Bool.false_eq_true, false_implies, implies_true, reduceCtorEq]
    repeat' (first | rfl | apply And.intro)
  have b6 : decide (e5 = 0) = true := decide_eq_true x6
  simp -implicitDefEqProofs only [go_sem, b6, spl21]
  refine ⟨⟨by omega, by omega, by omega⟩, ?_⟩
  simp -implicitDefEqProofs only [go_sem, b6, hQz, spl21]
  obtain ⟨⟨e6, d6⟩, hq6⟩ : ∃ q, baT d5 = q := ⟨_, rfl⟩
  refine at_call tFBarrier (baTS (i := 2) (a := 24) (b := 25) (c := 26) ⟨by rfl, by rfl, by rfl, by rfl, by decide⟩ hP5 (by omega) (by decide) hq6) ?_
  have hsl : slW first Q I d = (e6, d6) := by unfold slW; rw [hp3, x6]; exact hq6
  rw [hsl]
  by_cases x7 : e6 = 0
  rotate_left
  · have b7 : decide (e6 = 0) = false := decide_eq_false x7
    simp -implicitDefEqProofs only [go_sem, b7]
    unfold ceD cellB
    refine sub_mk [(8, 27), (9, 28), (10, 29)] rfl rfl rfl ?_
    simp only [tmSub, hpSub, objSub, eqTm, eqHp, rn, lk, SV.ren, SV.renC, SV.renB, SV.renA, ren_ints, ren_strs, ren_pl, ren_svs, SV.v.injEq, Value.int.injEq, Body.ints.injEq, SV.ptr.injEq, SV.sl.injEq, Value.string.injEq, Value.bool.injEq, List.map_cons, List.map_nil, forall_const, Nat.reduceLT, Nat.lt_add_one, imp_self, true_and, and_true, and_self, ob_some, get_mk, lk_cons, ↓reduceIte, Nat.reduceEqDiff, ne_eq, not_true_eq_false, not_false_eq_true, Nat.one_ne_zero, Nat.zero_ne_one, Nat.succ_ne_self, Nat.reduceAdd, Bool.false_eq_true, false_implies, implies_true, reduceCtorEq]
    repeat' (first | rfl | apply And.intro)
  have b7 : decide (e6 = 0) = true := decide_eq_true x7
  simp -implicitDefEqProofs only [go_sem, b7, g2]
  rw [LoopU_succ]
  simp -implicitDefEqProofs only [go_sem, f3]
  rw [x7]
  unfold ceD cellB
  refine sub_mk [(8, 27), (9, 28), (10, 29)] rfl rfl rfl ?_
  simp only [tmSub, hpSub, objSub, eqTm, eqHp, rn, lk, SV.ren, SV.renC, SV.renB, SV.renA, ren_ints, ren_strs, ren_pl, ren_svs, SV.v.injEq, Value.int.injEq, Body.ints.injEq, SV.ptr.injEq, SV.sl.injEq, Value.string.injEq, Value.bool.injEq, List.map_cons, List.map_nil, forall_const, Nat.reduceLT, Nat.lt_add_one, imp_self, true_and, and_true, and_self, ob_some, get_mk, lk_cons, ↓reduceIte, Nat.reduceEqDiff, ne_eq, not_true_eq_false, not_false_eq_true, Nat.one_ne_zero, Nat.zero_ne_one, Nat.succ_ne_self, Nat.reduceAdd, Bool.false_eq_true, false_implies, implies_true, reduceCtorEq]
  repeat' (first | rfl | apply And.intro)
end
section
/- Cells: at any heap; Commit. -/
set_option linter.unusedVariables false
set_option linter.unusedSimpArgs false
set_option maxRecDepth 100000
open Go.Proofs
variable {H : Hp} {n : Nat} {x : Nat → Option SO} {i D a b c M W : Nat} {d d' : Fd} {C C' : Ce}
def ceP (i D a b c M W : Nat) : List (Nat × Nat) := [(1, i), (2, D), (3, a), (4, b), (5, c), (6, M), (7, W)]
structure CellAt (H : Hp) (C : Ce) (d : Fd) (i D a b c M W : Nat) : Prop where
  gi : H.get i = some ⟨true, cellB C D M W⟩
  gD : H.get D = some ⟨true, devB d a b c⟩
  ga : H.get a = some ⟨true, secB d.seen⟩
  gb : H.get b = some ⟨true, secB d.safe⟩
  gc : H.get c = some ⟨true, .pl (prow d.pend)⟩
  gM : H.get M = some ⟨true, .mp (.map C.now)⟩
  gW : H.get W = some ⟨true, .mp (.map C.was)⟩
  ne : ([i, D, a, b, c, M, W].all fun k => decide (0 < k ∧ k < 1000)) = true
  ap : apartB (ceP i D a b c M W) (ceL C d) (ceL C d) = true
  nz : wrNZ (ceP i D a b c M W) (ceL C d) = true
theorem CellAt.sub (h : CellAt H C d i D a b c M W) : hpSub (ceP i D a b c M W) H (ceL C d) := by
  obtain ⟨g1, g2, g3, g4, g5, g6, g7, hp, _, _⟩ := h
  simp at hp
  exact ⟨sub_wr rfl hp.1.1 hp.1.2 g1 rfl, sub_wr rfl hp.2.1.1 hp.2.1.2 g2 rfl, sub_wr rfl hp.2.2.1.1 hp.2.2.1.2 g3 rfl, sub_wr rfl hp.2.2.2.1.1 hp.2.2.2.1.2 g4 rfl, sub_wr rfl hp.2.2.2.2.1.1 hp.2.2.2.2.1.2 g5 rfl, sub_wr rfl hp.2.2.2.2.2.1.1 hp.2.2.2.2.2.1.2 g6 rfl, sub_wr rfl hp.2.2.2.2.2.2.1 hp.2.2.2.2.2.2.2 g7 rfl, trivial⟩
theorem putS {name text : ByteArray} (h : CellAt H C d i D a b c M W) (hE : Es C.now) :
    SpecAt Tryz.prog nCPut [.ptr i 0, .v (.string name), .v (.string text)] H n (.v (.int .i64 (putE C.now name text)))
      ⟨(i, some ⟨true, cellB C D M W⟩) :: (D, some ⟨true, devB d a b c⟩) :: (a, some ⟨true, secB d.seen⟩) :: (b, some ⟨true, secB d.safe⟩) :: (c, some ⟨true, .pl (prow d.pend)⟩) :: (M, some ⟨true, .mp (.map (putEs C.now name text))⟩) :: (W, some ⟨true, .mp (.map C.was)⟩) :: H.l, H.x⟩ n := by
  have := lift (n := n) (okT.spec tCPut (putW (x := H.x) (d := d) (C := C) (name := name) (text := text) hE)) (ceP i D a b c M W) rfl rfl rfl (by omega) rfl rfl h.sub h.ap h.nz (by omega)
  exact this
theorem dropS {name : ByteArray} (h : CellAt H C d i D a b c M W) (hE : Es C.now) :
    SpecAt Tryz.prog nCDrop [.ptr i 0, .v (.string name)] H n (.v (.bool (luS C.now name).isSome))
      ⟨(i, some ⟨true, cellB C D M W⟩) :: (D, some ⟨true, devB d a b c⟩) :: (a, some ⟨true, secB d.seen⟩) :: (b, some ⟨true, secB d.safe⟩) :: (c, some ⟨true, .pl (prow d.pend)⟩) :: (M, some ⟨true, .mp (.map (dlS C.now name))⟩) :: (W, some ⟨true, .mp (.map C.was)⟩) :: H.l, H.x⟩ n := by
  have := lift (n := n) (okT.spec tCDrop (dropW (x := H.x) (d := d) (C := C) (name := name) hE)) (ceP i D a b c M W) rfl rfl rfl (by omega) rfl rfl h.sub h.ap h.nz (by omega)
  exact this
theorem cwriteS {first m t : Nat} {I Q : ByteArray} (h : CellAt H C d i D a b c M W) (hP : Pl d m t) (ht : t + 1000 < 1000000) (hI0 : 0 < I.size) (hI : I.size ≤ 8192) (hQ0 : 0 < Q.size) (hQ : Q.size ≤ 64) (hf : first ≤ 1000000) (hn : n + 3 ≤ 1000) {e : Int} (hq : slW first Q I d = (e, d')) :
    SpecAt Tryz.prog nCwrite [.ptr i 0, .v (.int .i64 first), .v (.string I), .v (.string Q)] H n (.v (.int .i64 e))
      ⟨(i, some ⟨true, cellB C D M W⟩) :: (D, some ⟨true, devB d' n (n + 1) (n + 1 + 1)⟩) :: (a, none) :: (b, none) :: (c, none) :: (M, some ⟨true, .mp (.map C.now)⟩) :: (W, some ⟨true, .mp (.map C.was)⟩) :: (n, some ⟨true, secB d'.seen⟩) :: (n + 1, some ⟨true, secB d'.safe⟩) :: (n + 1 + 1, some ⟨true, .pl (prow d'.pend)⟩) :: H.l, H.x⟩ (n + 3) := by
  have e1 : (slW first Q I d).1 = e := by rw [hq]
  have e2 : (slW first Q I d).2 = d' := by rw [hq]
  subst e1; subst e2
  have := lift (n := n) (okT.spec tCwrite (cwriteW (x := H.x) (C := C) hP ht hI0 hI hQ0 hQ hf)) (ceP i D a b c M W) rfl rfl rfl (by omega) rfl rfl h.sub h.ap h.nz (by omega)
  exact this
theorem bytesS {es : List (Value × Value)} {s : SO} (hg : H.get i = some s) (hb : s.b = .mp (.map es)) (hi : 0 < i) (h : Es es) : SpecAt Tryz.prog ncbytes [.mp i] H n (.v (.string (encB es))) H n := by
  have := lift_ro (n := n) (okT.spec tcbytes (bytesW (x := H.x) h)) [(1, i)] rfl rfl rfl (by omega) rfl rfl ⟨sub_ro rfl hi hg hb, trivial⟩ (by simp [apartB, apart1, rn, lk]) (by simp [wrNZ, rn, lk]) rfl
  exact this
def hdC (k z : Nat) : ByteArray := tx (be k 8 ++ be z 4 ++ be k 8)
theorem hdC_size {k z : Nat} : (hdC k z).size = 20 := by unfold hdC; rw [tx_sz]; simp only [List.length_append, be_len]
theorem encB_pos {es : List (Value × Value)} : 0 < (encB es).size := by
  unfold encB
  rw [tx_sz]
  have : ∀ j, 2 ≤ (encL es j).length := by
    intro j
    induction j with
    | zero => unfold encL; rw [be_len]; exact Nat.le_refl _
    | succ j ih => unfold encL; simp only [List.length_append]; omega
  have := this es.length
  omega
def ceTo (C : Ce) : Nat := C.base + (1 - C.last) * C.half
def coQ (C : Ce) (d : Fd) : Int × Fd := slW (ceTo C) (hdC (C.num + 1) (encB C.now).size) (encB C.now) d
def coR (C : Ce) (d : Fd) : Int × Ce × Fd :=
  if C.dead then (7, C, d) else if 64 * (C.half - 1) < (encB C.now).size then (4, C, d)
  else if (coQ C d).1 ≠ 0 then ((coQ C d).1, { C with dead := true }, (coQ C d).2) else (0, { C with last := 1 - C.last, num := C.num + 1, was := C.now }, (coQ C d).2)
structure Ce.ok (C : Ce) : Prop where
  now : Es C.now
  was : Es C.was
  half : 2 ≤ C.half ∧ C.half ≤ 129
  base : C.base ≤ 4096
  last : C.last ≤ 1
  num : C.num < 1000000000000
def ceK (C : Ce) (d : Fd) (x : Nat → Option SO) : Hp := ⟨[(1, some ⟨true, cellB C 2 6 11⟩), (2, some ⟨true, devB d 8 9 10⟩), (3, none), (4, none), (5, none), (6, some ⟨true, .mp (.map C.now)⟩), (7, none), (8, some ⟨true, secB d.seen⟩), (9, some ⟨true, secB d.safe⟩), (10, some ⟨true, .pl (prow d.pend)⟩), (11, some ⟨true, .mp (.map C.was)⟩)], x⟩
set_option maxHeartbeats 2000000 in
theorem commitW {m t : Nat} (hC : C.ok) (hP : Pl d m t) (ht : t + 1000 < 1000000) : fnVC CT mCCommit [.ptr 1 0] (ceH C d x) 8 fun v H' n' => Sub 8 ⟨[(0, .v (.int .i64 (coR C d).1))], ceK (coR C d).2.1 (coR C d).2.2 x, 12⟩ ⟨[(0, v)], H', n'⟩ := by
  obtain ⟨hE, hW, ⟨hh1, hh2⟩, hbs, hla, hnu⟩ := hC
  unfold mCCommit
  rw [show ceH C d x = ⟨ceL C d, x⟩ from rfl]
  unfold ceL devL cellB
  simp -implicitDefEqProofs only [↓fnVC, initTm]
  by_cases c1 : C.dead = true
  · rw [c1]
    simp -implicitDefEqProofs only [go_sem]
    rw [show coR C d = (7, C, d) from if_pos c1]
    unfold ceK cellB
    refine sub_mk [(8, 3), (9, 4), (10, 5), (11, 7)] rfl rfl rfl ?_
    simp only [tmSub, hpSub, objSub, eqTm, eqHp, rn, lk, SV.ren, SV.renC, SV.renB, SV.renA, ren_ints, ren_strs, ren_pl, ren_svs, SV.v.injEq, Value.int.injEq, Body.ints.injEq, SV.ptr.injEq, SV.sl.injEq, Value.string.injEq, Value.bool.injEq, List.map_cons, List.map_nil, forall_const, Nat.reduceLT, Nat.lt_add_one, imp_self, true_and, and_true, and_self, ob_some, get_mk, lk_cons, ↓reduceIte, Nat.reduceEqDiff, ne_eq, not_true_eq_false, not_false_eq_true, Nat.one_ne_zero, Nat.zero_ne_one, Nat.succ_ne_self, Nat.reduceAdd, Bool.false_eq_true, false_implies, implies_true, reduceCtorEq]
    rw [c1]
    repeat' (first | rfl | apply And.intro)
  have c1' : C.dead = false := by simpa using c1
  rw [c1']
  simp -implicitDefEqProofs only [go_sem]
  refine at_call tcbytes (bytesS (i := 6) (by rfl) rfl (by decide) hE) ?_
  simp -implicitDefEqProofs only [go_sem]
  refine in_call mixT tCroom ?_
  unfold mCroom
  simp -implicitDefEqProofs only [↓fnVC, initTm]
  have w1 : IntKind.i64.wrap ((C.half : Int) - 1) = ((C.half - 1 : Nat) : Int) := by rw [wrap_i64 (by omega) (by omega)]; omega
  have w2 : IntKind.i64.wrap (64 * ((C.half - 1 : Nat) : Int)) = ((64 * (C.half - 1) : Nat) : Int) := by rw [wrap_i64 (by omega) (by omega)]; omega
  simp -implicitDefEqProofs only [go_sem, w1, w2]
  by_cases c2 : 64 * (C.half - 1) < (encB C.now).size
  · have b2 : decide (((encB C.now).size : Int) > ((64 * (C.half - 1) : Nat) : Int)) = true := decide_eq_true (by omega)
    simp -implicitDefEqProofs only [go_sem, b2]
    rw [show coR C d = (4, C, d) by unfold coR; rw [if_neg c1, if_pos c2]]
    unfold ceK cellB
    refine sub_mk [(8, 3), (9, 4), (10, 5), (11, 7)] rfl rfl rfl ?_
    simp only [tmSub, hpSub, objSub, eqTm, eqHp, rn, lk, SV.ren, SV.renC, SV.renB, SV.renA, ren_ints, ren_strs, ren_pl, ren_svs, SV.v.injEq, Value.int.injEq, Body.ints.injEq, SV.ptr.injEq, SV.sl.injEq, Value.string.injEq, Value.bool.injEq, List.map_cons, List.map_nil, forall_const, Nat.reduceLT, Nat.lt_add_one, imp_self, true_and, and_true, and_self, ob_some, get_mk, lk_cons, ↓reduceIte, Nat.reduceEqDiff, ne_eq, not_true_eq_false, not_false_eq_true, Nat.one_ne_zero, Nat.zero_ne_one, Nat.succ_ne_self, Nat.reduceAdd, Bool.false_eq_true, false_implies, implies_true, reduceCtorEq]
    rw [c1']
    repeat' (first | rfl | apply And.intro)
  have b2 : decide (((encB C.now).size : Int) > ((64 * (C.half - 1) : Nat) : Int)) = false := decide_eq_false (by omega)
  have b3 : decide ((C.num : Int) ≥ 9223372036854775806) = false := decide_eq_false (by omega)
  have w3 : IntKind.i64.wrap (1 - (C.last : Int)) = ((1 - C.last : Nat) : Int) := by rw [wrap_i64 (by omega) (by omega)]; omega
  have w4 : IntKind.i64.wrap ((C.num : Int) + 1) = ((C.num + 1 : Nat) : Int) := by rw [wrap_i64 (by omega) (by omega)]; omega
  simp -implicitDefEqProofs only [go_sem, b2, b3, w3, w4]
  have hsz : (encB C.now).size < 4294967296 := by omega
  generalize hs : encB C.now = sB at *
  refine in_call mixT tWEight ?_
  unfold mWEight
  simp -implicitDefEqProofs only [↓fnVC, initTm]
  simp -implicitDefEqProofs only [go_sem]
  refine at_call tWNumber (wNum0S (i := 8) (k := 8) (y := C.num + 1) (by rfl) (by decide) (by decide) (by decide) (by omega) (fun h => absurd h (by decide))) ?_
  simp -implicitDefEqProofs only [go_sem]
  refine at_call tWFour (wFourS (i := 8) (r := 9) (y := sB.size) (bs := be (C.num + 1) 8) hsz (by rw [be_len]; decide) (by rfl) (by rfl) (by decide) (by decide) (by decide) (by decide)) ?_
  simp -implicitDefEqProofs only [go_sem, w4]
  refine in_call mixT tWEight ?_
  unfold mWEight
  simp -implicitDefEqProofs only [↓fnVC, initTm]
  simp -implicitDefEqProofs only [go_sem]
  refine at_call tWNumber (wNumS (i := 8) (r := 10) (k := 8) (y := C.num + 1) (bs := be (C.num + 1) 8 ++ be sB.size 4) (bad := false) (by rfl) (by rfl) (by decide) (by decide) (by decide) (by decide) (by decide) (by omega) (fun h => absurd h (by decide)) (by rw [List.length_append, be_len, be_len]; decide)) ?_
  simp -implicitDefEqProofs only [go_sem]
  refine at_call tWBytes (wBytesS (i := 8) (r := 11) (bs := be (C.num + 1) 8 ++ be sB.size 4 ++ be (C.num + 1) 8) (bad := false) (by rfl) (by rfl) (by decide) rfl) ?_
  rw [if_neg Bool.false_ne_true, show tx (be (C.num + 1) 8 ++ be sB.size 4 ++ be (C.num + 1) 8) = hdC (C.num + 1) sB.size from rfl]
  simp -implicitDefEqProofs only [go_sem]
  refine in_call mixT tCfirst ?_
  unfold mCfirst
  simp -implicitDefEqProofs only [↓fnVC, initTm]
  have hm : (1 - C.last) * C.half ≤ 129 := by
    have : 1 - C.last ≤ 1 := by omega
    calc (1 - C.last) * C.half ≤ 1 * C.half := Nat.mul_le_mul_right _ this
      _ ≤ 129 := by omega
  have w5 : IntKind.i64.wrap (((1 - C.last : Nat) : Int) * (C.half : Int)) = (((1 - C.last) * C.half : Nat) : Int) := by
    rw [← Int.natCast_mul]; exact wrap_i64 (by omega) (by omega)
  have w6 : IntKind.i64.wrap ((C.base : Int) + (((1 - C.last) * C.half : Nat) : Int)) = ((ceTo C : Nat) : Int) := by
    unfold ceTo; rw [wrap_i64 (by omega) (by omega)]; omega
  have hto : ceTo C ≤ 1000000 := by unfold ceTo; omega
  simp -implicitDefEqProofs only [go_sem, w5, w6]
  have hq0 : coQ C d = slW (ceTo C) (hdC (C.num + 1) sB.size) sB d := by unfold coQ; rw [hs]
  obtain ⟨⟨e, d'⟩, hq⟩ : ∃ q, slW (ceTo C) (hdC (C.num + 1) sB.size) sB d = q := ⟨_, rfl⟩
  rw [hq] at hq0
  refine at_call tCwrite (cwriteS (i := 1) (D := 2) (a := 3) (b := 4) (c := 5) (M := 6) (W := 7) (C := { C with dead := false }) ⟨by rfl, by rfl, by rfl, by rfl, by rfl, by rfl, by rfl, by decide, rfl, rfl⟩ hP ht (by rw [← hs]; exact encB_pos) (by omega) (by rw [hdC_size]; decide) (by rw [hdC_size]; decide) hto (by decide) hq) ?_
  by_cases c3 : e = 0
  · have b4 : decide (e = 0) = true := decide_eq_true c3
    unfold cellB
    simp -implicitDefEqProofs only [go_sem, b4]
    refine at_ext (enters_mk Tryz.func49 rfl rfl) (cloneT (i := 6) (by rfl) rfl (by decide)) ?_
    simp -implicitDefEqProofs only [go_sem, b4, w4]
    refine ⟨rfl, ?_⟩
    rw [show coR C d = (0, { C with last := 1 - C.last, num := C.num + 1, was := C.now }, d') by unfold coR; rw [if_neg c1, hs, if_neg c2, hq0, if_neg (fun h => h c3)]]
    unfold ceK cellB
    refine sub_mk [(8, 12), (9, 13), (10, 14), (11, 15)] rfl rfl rfl ?_
    simp only [tmSub, hpSub, objSub, eqTm, eqHp, rn, lk, SV.ren, SV.renC, SV.renB, SV.renA, ren_ints, ren_strs, ren_pl, ren_svs, SV.v.injEq, Value.int.injEq, Body.ints.injEq, SV.ptr.injEq, SV.sl.injEq, Value.string.injEq, Value.bool.injEq, List.map_cons, List.map_nil, forall_const, Nat.reduceLT, Nat.lt_add_one, imp_self, true_and, and_true, and_self, ob_some, get_mk, lk_cons, ↓reduceIte, Nat.reduceEqDiff, ne_eq, not_true_eq_false, not_false_eq_true, Nat.one_ne_zero, Nat.zero_ne_one, Nat.succ_ne_self, Nat.reduceAdd, Bool.false_eq_true, false_implies, implies_true, reduceCtorEq]
    rw [c1']
    repeat' (first | rfl | apply And.intro)
  · have b4 : decide (e = 0) = false := decide_eq_false c3
    unfold cellB
    simp -implicitDefEqProofs only [go_sem, b4]
    rw [show coR C d = (e, { C with dead := true }, d') by unfold coR; rw [if_neg c1, hs, if_neg c2, hq0, if_pos c3]]
    unfold ceK cellB
    refine sub_mk [(8, 12), (9, 13), (10, 14), (11, 7)] rfl rfl rfl ?_
    simp only [tmSub, hpSub, objSub, eqTm, eqHp, rn, lk, SV.ren, SV.renC, SV.renB, SV.renA, ren_ints, ren_strs, ren_pl, ren_svs, SV.v.injEq, Value.int.injEq, Body.ints.injEq, SV.ptr.injEq, SV.sl.injEq, Value.string.injEq, Value.bool.injEq, List.map_cons, List.map_nil, forall_const, Nat.reduceLT, Nat.lt_add_one, imp_self, true_and, and_true, and_self, ob_some, get_mk, lk_cons, ↓reduceIte, Nat.reduceEqDiff, ne_eq, not_true_eq_false, not_false_eq_true, Nat.one_ne_zero, Nat.zero_ne_one, Nat.succ_ne_self, Nat.reduceAdd, Bool.false_eq_true, false_implies, implies_true, reduceCtorEq]
    repeat' (first | rfl | apply And.intro)
end
end Go.Sx