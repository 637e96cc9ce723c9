/- Cells: a copy's write, plain (as layer 22's, with any header). -/
import Derived.Test.YtaggkccjgnkloaaGreatFlashB

set_option linter.unusedVariables false
set_option linter.unusedSimpArgs false
set_option maxRecDepth 100000
namespace Go.Sx
open Go.Proofs
variable {H : Hp} {n : Nat} {x : Nat → Option SO} {d d' : Fd} {i a b c : Nat} {u1 u2 u3 : Bool}
def thn (p : Int × Fd) (f : Fd → Int × Fd) : Int × Fd := if p.1 = 0 then f p.2 else p
theorem thn_ok {p : Int × Fd} {f : Fd → Int × Fd} (h : p.1 = 0) : thn p f = f p.2 := if_pos h
theorem thn_no {p : Int × Fd} {f : Fd → Int × Fd} (h : p.1 ≠ 0) : thn p f = p := if_neg h
theorem thn_pl {p : Int × Fd} {f : Fd → Int × Fd} {m t : Nat} (hP : Pl p.2 m t) (hf : Pl p.2 m t → Pl (f p.2).2 m (t + 1)) : Pl (thn p f).2 m (t + 1) := by
  unfold thn; split
  · exact hf hP
  · exact hP.more
theorem Pl.mono {k t u : Nat} (h : Pl d k t) (hu : t ≤ u) : Pl d k u := ⟨h.ok, h.len, h.sn, by have := h.st; omega, by have := h.few; omega⟩
def chk (I : ByteArray) (j : Nat) : ByteArray := I.extract (64 * j) (min (64 * j + 64) I.size)
def cws (at_ : Int) (I : ByteArray) (p : Int × Fd) : Nat → Int × Fd
  | 0 => p
  | j + 1 => thn (cws at_ I p j) fun d => wrT d (at_ + 1 + j) (chk I j)
def nCh (I : ByteArray) : Nat := (I.size + 63) / 64
def p1 (at_ : Int) (d : Fd) : Int × Fd := thn (wrT d at_ ⟨#[]⟩) baT
def pC (at_ : Int) (I : ByteArray) (d : Fd) (j : Nat) : Int × Fd := cws at_ I (p1 at_ d) j
def p2 (at_ : Int) (I : ByteArray) (d : Fd) : Int × Fd := thn (pC at_ I d (nCh I)) baT
def p3 (at_ : Int) (Q : ByteArray) (I : ByteArray) (d : Fd) : Int × Fd := thn (p2 at_ I d) fun d => wrT d at_ (Q)
def slW (at_ : Int) (Q : ByteArray) (I : ByteArray) (d : Fd) : Int × Fd := thn (p3 at_ Q I d) baT
theorem p1_pl {at_ : Int} {m t : Nat} (hP : Pl d m t) (ht : t + 1000 < 1000000) : Pl (p1 at_ d).2 m (t + 2) :=
  thn_pl (wrT_pl hP (by omega)) fun h => baT_pl h (by omega)
theorem pC_pl {at_ : Int} {I : ByteArray} {m t : Nat} (hP : Pl d m t) (ht : t + 1000 < 1000000) : ∀ {j}, j ≤ 200 → Pl (pC at_ I d j).2 m (t + 2 + j)
  | 0, _ => p1_pl hP ht
  | j + 1, h => thn_pl (pC_pl hP ht (by omega)) fun h => wrT_pl h (by show t + 2 + j < 1000000; omega)
theorem nCh_lt {I : ByteArray} {j : Nat} : j < nCh I ↔ 64 * j < I.size := by unfold nCh; omega
theorem nCh_le {I : ByteArray} (h : I.size ≤ 8192) : nCh I ≤ 128 := by unfold nCh; omega
theorem p2_pl {at_ : Int} {I : ByteArray} {m t : Nat} (hP : Pl d m t) (ht : t + 1000 < 1000000) (hI : I.size ≤ 8192) : Pl (p2 at_ I d).2 m (t + 131) := by
  have h1 := pC_pl (at_ := at_) (I := I) hP ht (j := nCh I) (by have := nCh_le hI; omega)
  have h2 := thn_pl h1 (f := baT) fun h => baT_pl h (by have := nCh_le hI; omega)
  exact h2.mono (by have := nCh_le hI; omega)
theorem p3_pl {at_ : Int} {Q : ByteArray} {I : ByteArray} {m t : Nat} (hP : Pl d m t) (ht : t + 1000 < 1000000) (hI : I.size ≤ 8192) : Pl (p3 at_ Q I d).2 m (t + 132) :=
  thn_pl (p2_pl hP ht hI) fun h => wrT_pl h (by omega)
theorem slW_pl {at_ : Int} {Q : ByteArray} {I : ByteArray} {m t : Nat} (hP : Pl d m t) (ht : t + 1000 < 1000000) (hI : I.size ≤ 8192) : Pl (slW at_ Q I d).2 m (t + 133) :=
  thn_pl (p3_pl hP ht hI) fun h => baT_pl h (by omega)
structure GoodP (f0 : Bool) (m : Nat) (st : Int) (X : List (List Int)) (Y : List (Nat × List Int)) (d : Fd) : Prop where
  off : d.off = false
  safe : d.safe = X
  pend : d.pend = Y
  sn : Sn d
  len : d.seen.length = m
  st : d.st = st
  fa : f0 = true → d.fa = 0
def InvP (f0 : Bool) (m : Nat) (P : List (List Int) → List (Nat × List Int) → Prop) (st : Int) (X : List (List Int)) (Y : List (Nat × List Int)) (p : Int × Fd) : Prop :=
  (p.1 = 0 ∧ GoodP f0 m st X Y p.2) ∨ (f0 = false ∧ p.1 = 7 ∧ P p.2.safe p.2.pend)
theorem inv_wr {f0 : Bool} {m : Nat} {P : List (List Int) → List (Nat × List Int) → Prop} {st : Int} {X : List (List Int)} {Y : List (Nat × List Int)} {p : Int × Fd} {k : Nat} {s : ByteArray}
    (h : InvP f0 m P st X Y p) (hP : P X Y) (hk : k < m) (hs : s.size ≤ 64) : InvP f0 m P (st + 1) X (Y ++ [(k, pad64 (bts s))]) (thn p fun d => wrT d k s) := by
  rcases h with ⟨h0, g⟩ | ⟨hf, h7, hp⟩
  · rw [thn_ok h0]
    obtain ⟨e, d⟩ := p
    obtain ⟨g1, g2, g3, g4, g5, g6, g7⟩ := g
    simp only at g1 g2 g3 g4 g5 g6 g7
    unfold wrT
    have hN : wrNo d k s = if d.fa = 1 then some (7, stepD d) else none := by
      unfold wrNo; rw [g1, if_neg Bool.false_ne_true, if_neg (by omega), if_neg (by omega)]
    rw [hN]
    by_cases hfa : d.fa = 1
    · rw [if_pos hfa]
      refine .inr ⟨?_, rfl, ?_⟩
      · cases f0
        · rfl
        · have := g7 rfl; omega
      · show P (stepD d).safe (stepD d).pend
        rw [stepD_safe.1, stepD_safe.2.1, g2, g3]; exact hP
    · rw [if_neg hfa]
      refine .inl ⟨rfl, ⟨?_, ?_, ?_, ?_, ?_, ?_, ?_⟩⟩
      · show (wrD d _ s).off = false
        rw [wrD_off hfa, g1]
      · show (wrD d _ s).safe = X
        rw [wrD_safe, g2]
      · show (wrD d _ s).pend = _
        rw [wrD_pend, g3, Int.toNat_natCast]
      · exact g4.wr
      · show (wrD d _ s).seen.length = _
        rw [wrD_len, g5]
      · show (wrD d _ s).st = _
        rw [wrD_st hfa, g6]
      · intro hf; show (wrD d _ s).fa = _
        exact wrD_fa (g7 hf)
  · have hp1 : p.1 ≠ 0 := by rw [h7]; decide
    rw [thn_no hp1]
    exact .inr ⟨hf, h7, hp⟩
theorem inv_ba {f0 : Bool} {m : Nat} {P : List (List Int) → List (Nat × List Int) → Prop} {st : Int} {X : List (List Int)} {Y : List (Nat × List Int)} {p : Int × Fd}
    (h : InvP f0 m P st X Y p) (hP : P X Y) : InvP f0 m P (st + 1) (setl X Y) [] (thn p baT) := by
  rcases h with ⟨h0, g⟩ | ⟨hf, h7, hp⟩
  · rw [thn_ok h0]
    obtain ⟨e, d⟩ := p
    obtain ⟨g1, g2, g3, g4, g5, g6, g7⟩ := g
    simp only at g1 g2 g3 g4 g5 g6 g7
    unfold baT
    have hN : baNo d = if d.fa = 1 then some (7, stepD d) else none := by
      unfold baNo; rw [g1, if_neg Bool.false_ne_true]
    rw [hN]
    by_cases hfa : d.fa = 1
    · rw [if_pos hfa]
      refine .inr ⟨?_, rfl, ?_⟩
      · cases f0
        · rfl
        · have := g7 rfl; omega
      · show P (stepD d).safe (stepD d).pend
        rw [stepD_safe.1, stepD_safe.2.1, g2, g3]; exact hP
    · rw [if_neg hfa]
      refine .inl ⟨rfl, ⟨?_, ?_, rfl, ?_, ?_, ?_, ?_⟩⟩
      · show (baD d).off = false
        rw [baD_off hfa, g1]
      · show setl d.safe d.pend = _
        rw [g2, g3]
      · show (baD d).seen = setl (baD d).safe (baD d).pend
        rw [g4.ba]; rfl
      · show (baD d).seen.length = _
        rw [baD_seen, g5]
      · show (baD d).st = _
        rw [baD_st hfa, g6]
      · intro hf; exact baD_fa (g7 hf)
  · have hp1 : p.1 ≠ 0 := by rw [h7]; decide
    rw [thn_no hp1]
    exact .inr ⟨hf, h7, hp⟩
def pch (a0 : Nat) (I : ByteArray) (j : Nat) : List (Nat × List Int) := (List.range j).map fun k => (a0 + 1 + k, pad64 (bts (chk I k)))
def z64 : List Int := pad64 (bts ⟨#[]⟩)
def hd64 (Q : ByteArray) : List Int := pad64 (bts Q)
theorem pch_succ {a0 : Nat} {I : ByteArray} {j : Nat} : pch a0 I (j + 1) = pch a0 I j ++ [(a0 + 1 + j, pad64 (bts (chk I j)))] := by
  unfold pch; rw [List.range_succ, List.map_append]; rfl
theorem chk_size {I : ByteArray} {j : Nat} : (chk I j).size ≤ 64 := by
  unfold chk; rw [ByteArray.size_extract]; omega
inductive PhA (S : List (List Int)) (a0 : Nat) (Q : ByteArray) (I : ByteArray) : List (List Int) → List (Nat × List Int) → Prop
  | p0 : PhA S a0 Q I S []
  | p1 : PhA S a0 Q I S [(a0, z64)]
  | p2 (j : Nat) (h : j ≤ nCh I) : PhA S a0 Q I (S.set a0 z64) (pch a0 I j)
  | p4 : PhA S a0 Q I (setl (S.set a0 z64) (pch a0 I (nCh I))) []
  | p5 : PhA S a0 Q I (setl (S.set a0 z64) (pch a0 I (nCh I))) [(a0, hd64 Q)]
def doneS (S : List (List Int)) (a0 : Nat) (Q : ByteArray) (I : ByteArray) : List (List Int) := (setl (S.set a0 z64) (pch a0 I (nCh I))).set a0 (hd64 Q)
theorem slW_inv {f0 : Bool} {m a0 r : Nat} {st : Int} {S : List (List Int)} {I Q : ByteArray} (hh : Q.size ≤ 64) (g : GoodP f0 m st S [] d) (hm : a0 + 1 + r ≤ m) (hI : nCh I ≤ r) :
    InvP f0 m (PhA S a0 Q I) (st + 5 + nCh I) (doneS S a0 Q I) [] (slW a0 Q I d) := by
  have h0 : InvP f0 m (PhA S a0 Q I) st S [] (0, d) := .inl ⟨rfl, g⟩
  have h1 := inv_wr (k := a0) (s := ⟨#[]⟩) h0 .p0 (by omega) (by decide)
  rw [thn_ok rfl] at h1
  have h2 : InvP f0 m (PhA S a0 Q I) (st + 1 + 1) (S.set a0 z64) [] (p1 a0 d) := inv_ba h1 .p1
  have h3 : ∀ j, j ≤ nCh I → InvP f0 m (PhA S a0 Q I) (st + 2 + j) (S.set a0 z64) (pch a0 I j) (pC a0 I d j) := by
    intro j
    induction j with
    | zero => intro _; have e : st + 1 + 1 = st + 2 + (0 : Nat) := by omega
              rw [e] at h2; exact h2
    | succ j ih =>
      intro hj
      have := inv_wr (k := a0 + 1 + j) (s := chk I j) (ih (by omega)) (.p2 j (by omega)) (by omega) chk_size
      rw [← pch_succ, show st + 2 + (j : Int) + 1 = st + 2 + ((j + 1 : Nat) : Int) by omega] at this
      exact this
  have h4 : InvP f0 m (PhA S a0 Q I) (st + 2 + nCh I + 1) (setl (S.set a0 z64) (pch a0 I (nCh I))) [] (p2 a0 I d) := inv_ba (h3 _ (Nat.le_refl _)) (.p2 _ (Nat.le_refl _))
  have h5 : InvP f0 m (PhA S a0 Q I) (st + 2 + nCh I + 1 + 1) (setl (S.set a0 z64) (pch a0 I (nCh I))) [(a0, hd64 Q)] (p3 a0 Q I d) := inv_wr h4 .p4 (by omega) hh
  have h6 : InvP f0 m (PhA S a0 Q I) (st + 2 + nCh I + 1 + 1 + 1) (doneS S a0 Q I) [] (slW a0 Q I d) := inv_ba h5 .p5
  rw [show st + 2 + (nCh I : Int) + 1 + 1 + 1 = st + 5 + nCh I by omega] at h6
  exact h6
end Go.Sx

/- Cells: names, bytes. -/
set_option linter.unusedVariables false
set_option linter.unusedSimpArgs false
set_option maxRecDepth 100000
namespace Go.Sx
attribute [local go_sem ↓] bind_mk intsB_mk strsB_mk svB_mk fnVC ob_some vc_skip vc_exit vc_ret vc_seq vc_block kSeq_normal kSeq_exit kSeq_ret kBlock_normal kBlock_exit kBlock_ret vc_reg vc_regD vc_cond condK_true condK_false vc_loop kLoop_exit kLoop_ret kRoll_normal kRoll_exit kRoll_ret vcOps_nil vcOps_cons gd_bool gd_undef put_some put_none vcT_fin vcT_pure vcT_act vcT_acts vcT_stop stab_none stab_some stabM_nil stabM_cons stabO_ld stabO_ldn stabO_slP stabO_b2s fldOf_ai fldOf_agg fldOf_ait fldOf_aggt intsOf_nil intsOf_cons strsOf_nil strsOf_cons c_omap ob_if lk_nil lk_cons ev_t ev_k z_mov z_pick z_bin z_binB z_binP z_un z_r2s z_conv z_s2b z_b2s z_mkM z_luM z_upM z_lenM lenMk_mp lenMk_nil plsOf_v z_delM asM_so plV_v plV_agg mpOf_mp mpOf_nil mpUp_mp asM_mp luV_ok luV_v z_allocT aggOf_mk z_boxT z_alloc z_bld z_bldI z_rowI z_rowS z_ld z_ldn z_st z_stn asN_ptr asN_fn z_nilck z_fld z_fadr z_idxA z_idxP z_idxS z_idxV z_slS z_slL z_slP z_mk z_lenS z_lenL z_app appC_ints appC_pl appC_sv appC_strs isS_strs loose_ints loose_pl loose_sv z_slM z_callv callvK_fn callvK_f callvK_yl vc_rangeF rfEnd_eq rfGo_none rfGo_ret rfGo_exit yGo_mk yEnd_n yEnd_r yEnd_e yRdy_mk yMid_n putPs_nil putPs_cons leaf_v leaf_ptr leaf_sl leaf_yl leaf_mp z_appS z_appST z_appZ z_cpyS z_mkfn reps_int reps_str z_rowV z_slnil nilK_zero z_cpy z_call asT_tup z_extT z_box boxOf_ai boxOf_agg boxOf_int boxOf_str boxOf_bool boxOf_ptr boxOf_sl sbin_int sbin_str sbinB_mk sbinP_nn sbinP_pn sbinP_np i_add i_sub i_mul i_quo i_rem i_and i_or i_xor i_andNot i_shl i_shr i_eql i_neq i_lss i_leq i_gtr i_geq st_add st_eql st_neq st_lss st_leq st_gtr st_geq bo_eql bo_neq pt_eql pt_neq un_neg un_xor un_not asI_mk asB_mk asS_mk asP_mk asSl_mk asBy_mk bnd_none bnd_some get_mk hput_mk hdel_mk kill_eq wrOf_eq rowOf_eq rsvs_0 rsvs_1 rsvs_2 rsvs_3 rsv_t rsv_c1 rsv_cn nt_v nt_ptr nt_sl nt_agg nt_ai get_ints get_strs get_pl get_sv getN_ints getN_sv set_ints set_strs set_sv setN_ints setN_sv part_ints part_strs part_sv cat_ints cat_strs cat_sv over_ints over_strs over_sv ones_ints ones_strs evs_nil evs_cons condK_eqt condK_eqf det_callP V_ns V_nn V_gs V_gn obC_mk fresh_ev freshT_ev freshR_ev setN_plagg setN_intsv setN_svai setN_svagg over_intsv set_pl setN_pl setN_plai getN_pl getN_strs part_pl cat_pl over_pl over_plints z_mm
attribute [local go_sem] initTm ne_eq not_true_eq_false not_false_eq_true true_and and_true List.length_cons List.length_nil Int.toNat_natCast Nat.add_zero Nat.zero_add Nat.mul_one List.getElem?_cons_zero List.drop_zero List.take_length List.take_succ_cons List.take_zero List.take_nil List.drop_succ_cons Option.map_some Nat.le_refl implies_true List.getElem?_cons_succ decide_true decide_false Bool.not_true Bool.not_false beq_self_eq_true Nat.succ_ne_self Nat.one_ne_zero Nat.zero_ne_one vk_mk hk_mk nk_mk tok_eq plsOf_map intsOf_map bodyOf_pl bodyOf_ints bodyOf_strs bodyOf_sv part_aggv part_agg part_ai part_int part_str part_bool part_sl part_ptr part_nil numsOf_map u_int u_str u_bool u_pnil u_sl u_ptr u_oci u_ocs evq_nil evq_cons fillS_nil fillS_cons u_ocb ones_pl cells_sv cells_ints cells_strs cells_pl smms_nil smms_cons smm_min smm_max plsOf_nil List.nil_append List.all_cons List.all_nil Bool.and_self Bool.true_and Bool.and_true zws_len zw_len zi_len List.set_cons_zero List.set_cons_succ List.flatMap_cons List.flatMap_nil List.append_nil
attribute [local go_sem_proc] Nat.reduceEqDiff Nat.reduceAdd Nat.reduceMul Nat.reduceLT Nat.reduceLeDiff Nat.reduceSub Int.reduceToNat Int.reduceLE Int.reduceLT reduceCtorEq Int.reduceEq Int.reduceGT Int.reduceGE Int.reduceNeg
attribute [local go_sem_proc ↓] reduceIte
section
open Go.Proofs
variable {H : Hp} {n : Nat} {x : Nat → Option SO} {i : Nat}
theorem srtK_len {es : List (Value × Value)} : (srtK es).length = es.length := by unfold srtK; rw [List.length_map, List.length_mergeSort, List.length_map]
theorem namesW {es : List (Value × Value)} (hk : keysS es = true) (hs : ∀ e ∈ es, (keyB e).length ≤ maxLen) (hl : es.length ≤ 1000000) :
    fnVC CT mcnames [.mp 1] ⟨[(1, some ⟨false, .mp (.map es)⟩)], x⟩ 2 fun v H' n' => Sub 2 ⟨[(0, .sl 2 0 es.length 1)], ⟨[(2, some ⟨true, .strs (srtK es)⟩)], x⟩, 3⟩ ⟨[(0, v)], H', n'⟩ := by
  unfold mcnames
  simp -implicitDefEqProofs only [↓fnVC, initTm]
  simp -implicitDefEqProofs only [go_sem]
  refine at_ext (enters_mk Tryz.func77 rfl rfl) (keysT (i := 1) (by rfl) (by decide)) ?_
  simp -implicitDefEqProofs only [go_sem]
  refine at_ext (enters_mk Tryz.func76 rfl rfl) (sortedT (i := 1) (j := 3) (k := 2) (by rfl) rfl (by rfl) rfl (by rfl) rfl hk hs hl (by decide)) ?_
  simp -implicitDefEqProofs only [go_sem]
  refine sub_mk [(2, 4)] rfl rfl rfl ?_
  simp only [tmSub, hpSub, objSub, eqTm, eqHp, rn, lk, SV.ren, SV.renC, SV.renB, SV.renA, ren_ints, ren_strs, ren_pl, ren_svs, SV.v.injEq, Value.int.injEq, Body.ints.injEq, SV.ptr.injEq, SV.sl.injEq, Value.string.injEq, Value.bool.injEq, List.map_cons, List.map_nil, forall_const, Nat.reduceLT, Nat.lt_add_one, imp_self, true_and, and_true, and_self, ob_some, get_mk, lk_cons, ↓reduceIte, Nat.reduceEqDiff, ne_eq, not_true_eq_false, not_false_eq_true, Nat.one_ne_zero, Nat.zero_ne_one, Nat.succ_ne_self, Nat.reduceAdd, Bool.false_eq_true, false_implies, implies_true, reduceCtorEq]
theorem namesS {es : List (Value × Value)} {s : SO} (hg : H.get i = some s) (hb : s.b = .mp (.map es)) (hi : 0 < i) (hk : keysS es = true) (hs : ∀ e ∈ es, (keyB e).length ≤ maxLen) (hl : es.length ≤ 1000000) (hn : n + 1 ≤ 1000) :
    SpecAt Tryz.prog ncnames [.mp i] H n (.sl n 0 es.length 1) ⟨(n, some ⟨true, .strs (srtK es)⟩) :: H.l, H.x⟩ (n + 1) := by
  have := lift (n := n) (okT.spec tcnames (namesW (x := H.x) hk hs hl)) [(1, i)] rfl rfl rfl (by omega) rfl rfl
    ⟨sub_ro rfl hi hg hb, trivial⟩ (by simp [apartB, apart1, rn, lk]) (by simp [wrNZ, rn, lk]) (by omega)
  exact this
structure Es (es : List (Value × Value)) : Prop where
  keys : keysS es = true
  kl : ∀ e ∈ es, (keyB e).length ≤ 32
  vals : ∀ e ∈ es, ∃ t : ByteArray, e.2 = .agg ⟨[.string t]⟩ ∧ t.size ≤ 65535
  len : es.length ≤ 64
  ne : ∀ e ∈ es, keyB e ≠ []
  nd : (es.map keyB).Nodup
def tOf (es : List (Value × Value)) (name : ByteArray) : ByteArray := match luS es name with
  | some (.agg ⟨[.string t]⟩) => t
  | _ => ⟨#[]⟩
theorem lu_some {es : List (Value × Value)} (hk : keysS es = true) {s : ByteArray} (h : s.data.toList ∈ es.map keyB) : ∃ e ∈ es, luS es s = some e.2 := by
  induction es with
  | nil => cases h
  | cons e es ih =>
    unfold keysS at hk
    rw [List.all_cons, Bool.and_eq_true] at hk
    unfold luS
    by_cases c : keyIs e.1 s = true
    · rw [if_pos c]; exact ⟨e, List.mem_cons_self .., rfl⟩
    · rw [if_neg c]
      rw [List.map_cons] at h
      rcases List.mem_cons.1 h with h | h
      · exfalso
        apply c
        have h1 := hk.1
        unfold keyB at h
        cases hq : e.1 <;> simp [hq] at h1
        rename_i q
        rw [hq] at h
        simp only at h
        unfold keyIs
        have : q = s := by apply ByteArray.ext; exact (Array.toList_inj.1 h).symm
        exact decide_eq_true this
      · obtain ⟨e', h1, h2⟩ := ih hk.2 h
        exact ⟨e', List.mem_cons_of_mem _ h1, h2⟩
theorem srtK_mem {es : List (Value × Value)} {s : ByteArray} (h : s ∈ srtK es) : s.data.toList ∈ es.map keyB := by
  unfold srtK at h
  obtain ⟨l, hl, rfl⟩ := List.mem_map.1 h
  exact (List.mergeSort_perm _ _).mem_iff.1 hl
theorem Es.at_ {es : List (Value × Value)} (h : Es es) {s : ByteArray} (hs : s ∈ srtK es) : luS es s = some (.agg ⟨[.string (tOf es s)]⟩) ∧ (tOf es s).size ≤ 65535 ∧ s.size ≤ 32 := by
  have hm := srtK_mem hs
  obtain ⟨e, he, hl⟩ := lu_some h.keys hm
  obtain ⟨t, ht, htz⟩ := h.vals e he
  have e1 : tOf es s = t := by unfold tOf; rw [hl, ht]
  rw [e1, hl, ht]
  refine ⟨rfl, htz, ?_⟩
  obtain ⟨e', he', hk'⟩ := List.mem_map.1 hm
  have := h.kl e' he'
  rw [hk'] at this
  rw [Array.length_toList] at this
  exact this
def nmAt (es : List (Value × Value)) (j : Nat) : ByteArray := (srtK es).getD j .empty
def encL (es : List (Value × Value)) : Nat → List Int
  | 0 => be es.length 2
  | j + 1 => encL es j ++ (be (nmAt es j).size 2 ++ bts (nmAt es j)) ++ (be (tOf es (nmAt es j)).size 2 ++ bts (tOf es (nmAt es j)))
def encB (es : List (Value × Value)) : ByteArray := tx (encL es es.length)
theorem nmAt_mem {es : List (Value × Value)} {j : Nat} (h : j < es.length) : nmAt es j ∈ srtK es := by
  unfold nmAt
  rw [List.getD_eq_getElem?_getD, List.getElem?_eq_getElem (by rw [srtK_len]; exact h)]
  exact List.getElem_mem _
theorem encL_len {es : List (Value × Value)} (h : Es es) : ∀ {j}, j ≤ es.length → (encL es j).length ≤ 2 + j * 65600
  | 0, _ => by unfold encL; rw [be_len]; omega
  | j + 1, hj => by
    have ih := encL_len h (j := j) (by omega)
    obtain ⟨h1, h2, h3⟩ := h.at_ (nmAt_mem (es := es) (j := j) (by omega))
    unfold encL
    simp only [List.length_append, be_len, bts_len]
    omega
theorem bytesW {es : List (Value × Value)} (h : Es es) : fnVC CT mcbytes [.mp 1] ⟨[(1, some ⟨false, .mp (.map es)⟩)], x⟩ 2 fun v H' n' => Sub 2 ⟨[(0, .v (.string (encB es)))], ⟨[], x⟩, 2⟩ ⟨[(0, v)], H', n'⟩ := by
  have hlen := h.len
  unfold mcbytes
  simp -implicitDefEqProofs only [↓fnVC, initTm]
  simp -implicitDefEqProofs only [go_sem]
  refine in_call mixT tWTwo ?_
  unfold mWTwo
  simp -implicitDefEqProofs only [↓fnVC, initTm]
  simp -implicitDefEqProofs only [go_sem]
  refine at_call tWNumber (wNum0S (i := 2) (k := 2) (y := es.length) (by rfl) (by decide) (by decide) (by decide) (by omega) (fun _ => by omega)) ?_
  simp -implicitDefEqProofs only [go_sem]
  refine at_call tcnames (namesS (i := 1) (by rfl) rfl (by decide) h.keys (fun e he => Nat.le_trans (h.kl e he) (by decide)) (by omega) (by decide)) ?_
  simp -implicitDefEqProofs only [go_sem]
  refine loop_fam (fun (j : Nat) => j ≤ es.length) (fun j => ⟨[(0, .mp 1), (3, .ptr 2 0), (12, .sl 4 0 es.length 1), (13, .v (.int .i64 es.length)), (14, .v (.int .i64 j))], ⟨[(1, some ⟨false, .mp (.map es)⟩), (2, some (wrO 3 (encL es j).length false)), (3, some ⟨true, .ints .u8 (encL es j)⟩), (4, some ⟨true, .strs (srtK es)⟩)], x⟩, 5⟩) (fun j => es.length - j) 0 (Nat.zero_le _) ?_ ?_
  · unfold wrO
    refine sub_mk [] rfl rfl rfl ?_
    simp only [tmSub, hpSub, objSub, eqTm, eqHp, rn, lk, SV.ren, SV.renC, SV.renB, SV.renA, ren_ints, ren_strs, ren_pl, ren_svs, SV.v.injEq, Value.int.injEq, Body.ints.injEq, SV.ptr.injEq, SV.sl.injEq, Value.string.injEq, Value.bool.injEq, List.map_cons, List.map_nil, forall_const, Nat.reduceLT, Nat.lt_add_one, imp_self, true_and, and_true, and_self, ob_some, get_mk, lk_cons, ↓reduceIte, Nat.reduceEqDiff, ne_eq, not_true_eq_false, not_false_eq_true, Nat.one_ne_zero, Nat.zero_ne_one, Nat.succ_ne_self, Nat.reduceAdd, Bool.false_eq_true, false_implies, implies_true, reduceCtorEq]
    repeat' (first | rfl | apply And.intro)
  · intro j hj
    simp -implicitDefEqProofs only [go_sem]
    refine condK_bb (fun c => ?_) (fun c => ?_)
    · have c1 : j < es.length := by have := of_decide_eq_true c; omega
      have hb := encL_len h hj
      obtain ⟨h1, h2, h3⟩ := h.at_ (nmAt_mem c1)
      have w2 : IntKind.i64.wrap ((j : Int) + 1) = ((j + 1 : Nat) : Int) := by rw [wrap_i64 (by omega) (by omega)]; omega
      have hnm : (srtK es).getD j .empty = nmAt es j := rfl
      have hsl : j < (srtK es).length := by rw [srtK_len]; exact c1
      simp -implicitDefEqProofs only [go_sem, c]
      refine ⟨⟨by omega, by omega⟩, hsl, ?_⟩
      rw [hnm]
      refine at_call tWText (wTextS (i := 2) (r := 3) (s := nmAt es j) (bs := encL es j) (by omega) (by omega) (by rfl) (by rfl) (by decide) (by decide) (by decide) (by decide)) ?_
      have hk := h.keys
      simp -implicitDefEqProofs only [go_sem, asM_so, hk, hnm]
      rw [h1]
      simp -implicitDefEqProofs only [go_sem, luV_v, Option.getD_some, elemSV]
      refine at_call tWText (wTextS (i := 2) (r := 5) (s := tOf es (nmAt es j)) (bs := encL es j ++ (be (nmAt es j).size 2 ++ bts (nmAt es j))) (by omega) (by simp only [List.length_append, be_len, bts_len]; omega) (by rfl) (by rfl) (by decide) (by decide) (by decide) (by decide)) ?_
      simp -implicitDefEqProofs only [go_sem, w2]
      refine kLoop_mk (j + 1) (by omega) (by omega) ?_
      unfold wrO
      refine sub_mk [(3, 6)] rfl rfl rfl ?_
      simp only [tmSub, hpSub, objSub, eqTm, eqHp, rn, lk, SV.ren, SV.renC, SV.renB, SV.renA, ren_ints, ren_strs, ren_pl, ren_svs, SV.v.injEq, Value.int.injEq, Body.ints.injEq, SV.ptr.injEq, SV.sl.injEq, Value.string.injEq, Value.bool.injEq, List.map_cons, List.map_nil, forall_const, Nat.reduceLT, Nat.lt_add_one, imp_self, true_and, and_true, and_self, ob_some, get_mk, lk_cons, ↓reduceIte, Nat.reduceEqDiff, ne_eq, not_true_eq_false, not_false_eq_true, Nat.one_ne_zero, Nat.zero_ne_one, Nat.succ_ne_self, Nat.reduceAdd, Bool.false_eq_true, false_implies, implies_true, reduceCtorEq]
      repeat' (first | rfl | apply And.intro)
    · have c1 : j = es.length := by have := of_decide_eq_false c; omega
      subst c1
      simp -implicitDefEqProofs only [go_sem, c]
      refine at_call tWBytes (wBytesS (i := 2) (r := 3) (bs := encL es es.length) (bad := false) (by rfl) (by rfl) (by decide) rfl) ?_
      rw [if_neg Bool.false_ne_true]
      simp -implicitDefEqProofs only [go_sem]
      refine sub_mk [] rfl rfl rfl ?_
      simp only [tmSub, hpSub, objSub, eqTm, eqHp, rn, lk, SV.ren, SV.renC, SV.renB, SV.renA, ren_ints, ren_strs, ren_pl, ren_svs, SV.v.injEq, Value.int.injEq, Body.ints.injEq, SV.ptr.injEq, SV.sl.injEq, Value.string.injEq, Value.bool.injEq, List.map_cons, List.map_nil, forall_const, Nat.reduceLT, Nat.lt_add_one, imp_self, true_and, and_true, and_self, ob_some, get_mk, lk_cons, ↓reduceIte, Nat.reduceEqDiff, ne_eq, not_true_eq_false, not_false_eq_true, Nat.one_ne_zero, Nat.zero_ne_one, Nat.succ_ne_self, Nat.reduceAdd, Bool.false_eq_true, false_implies, implies_true, reduceCtorEq]
      rfl
end
section
/- Cells: Get, Put, Drop, Undo. -/
set_option linter.unusedVariables false
set_option linter.unusedSimpArgs false
set_option maxRecDepth 100000
open Go.Proofs
variable {H : Hp} {n : Nat} {x : Nat → Option SO} {i : Nat} {d : Fd}
structure Ce where
  base : Nat
  half : Nat
  num : Nat
  last : Nat
  dead : Bool
  now : List (Value × Value)
  was : List (Value × Value)
def cellB (C : Ce) (D M W : Nat) : Body := .sv [.ptr D 0, .v (.int .i64 C.base), .v (.int .i64 C.half), .mp M, .mp W, .v (.int .i64 C.num), .v (.int .i64 C.last), .v (.bool C.dead)]
def ceL (C : Ce) (d : Fd) : List (Nat × Option SO) := (1, some ⟨true, cellB C 2 6 7⟩) :: devL d 2 3 4 5 [(6, some ⟨true, .mp (.map C.now)⟩), (7, some ⟨true, .mp (.map C.was)⟩)]
def ceH (C : Ce) (d : Fd) (x : Nat → Option SO) : Hp := ⟨ceL C d, x⟩
def getV (es : List (Value × Value)) (name : ByteArray) : SV := .tup [.v (.string (tOf es name)), .v (.bool (luS es name).isSome)]
theorem lu_mem {es : List (Value × Value)} {s : ByteArray} {v : Value} (h : luS es s = some v) : ∃ e ∈ es, e.2 = v := by
  induction es with
  | nil => cases h
  | cons e es ih =>
    unfold luS at h
    split at h
    · cases h; exact ⟨e, List.mem_cons_self .., rfl⟩
    · obtain ⟨e', h1, h2⟩ := ih h; exact ⟨e', List.mem_cons_of_mem _ h1, h2⟩
theorem Es.lu {es : List (Value × Value)} (h : Es es) (name : ByteArray) : (luS es name = none ∧ tOf es name = ⟨#[]⟩) ∨ luS es name = some (.agg ⟨[.string (tOf es name)]⟩) := by
  cases hl : luS es name with
  | none => exact .inl ⟨rfl, by unfold tOf; rw [hl]⟩
  | some v =>
    right
    obtain ⟨e, he, rfl⟩ := lu_mem hl
    obtain ⟨t, ht, _⟩ := h.vals e he
    have : tOf es name = t := by unfold tOf; rw [hl, ht]
    rw [this, ht]
theorem Es.get {es : List (Value × Value)} (h : Es es) (name : ByteArray) : luV (luS es name) (.agg ⟨[.string ⟨#[]⟩]⟩) true = .tup [.agg [.v (.string (tOf es name))], .v (.bool (luS es name).isSome)] := by
  rcases h.lu name with ⟨h1, h2⟩ | h1
  · rw [h1, h2]; rfl
  · rw [h1]; rfl
theorem Es.el {es : List (Value × Value)} (h : Es es) (name : ByteArray) : elemSV ((luS es name).getD (.agg ⟨[.string ⟨#[]⟩]⟩)) = .agg [.v (.string (tOf es name))] := by
  rcases h.lu name with ⟨h1, h2⟩ | h1
  · rw [h1, h2]; rfl
  · rw [h1]; rfl
def putE (es : List (Value × Value)) (name text : ByteArray) : Int :=
  if name.size = 0 ∨ 32 < name.size then 1 else if 65535 < text.size then 4 else if (luS es name).isSome = false ∧ 64 ≤ es.length then 6 else 0
def putEs (es : List (Value × Value)) (name text : ByteArray) : List (Value × Value) := if putE es name text = 0 then upS es name (.agg ⟨[.string text]⟩) else es
theorem spl1 {a b : SV} : splice [a] 0 [b] = [b] := rfl
theorem putE_1 {es : List (Value × Value)} {name text : ByteArray} (h : name.size = 0 ∨ 32 < name.size) : putE es name text = 1 := if_pos h
theorem putW {C : Ce} {name text : ByteArray} (h : Es C.now) : fnVC CT mCPut [.ptr 1 0, .v (.string name), .v (.string text)] (ceH C d x) 8 fun v H' n' => Sub 8 ⟨[(0, .v (.int .i64 (putE C.now name text)))], ceH { C with now := putEs C.now name text } d x, 8⟩ ⟨[(0, v)], H', n'⟩ := by
  have hk := h.keys
  have hg := h.el name
  have hlen := h.len
  have keep : ∀ {e : Int}, e ≠ 0 → putE C.now name text = e → ceH { C with now := putEs C.now name text } d x = ceH C d x := fun h0 h1 => by
    unfold putEs; rw [if_neg (by rw [h1]; exact h0)]
  unfold mCPut
  rw [show ceH C d x = ⟨ceL C d, x⟩ from rfl]
  unfold ceL devL cellB
  simp -implicitDefEqProofs only [↓fnVC, initTm]
  simp -implicitDefEqProofs only [go_sem]
  refine in_call mixT tCGet ?_
  unfold mCGet
  simp -implicitDefEqProofs only [↓fnVC, initTm]
  simp -implicitDefEqProofs only [go_sem, asM_so, hk, hg, spl1]
  by_cases c1 : name.size = 0
  · have a1 : seq name ⟨#[]⟩ = true := seq_emp c1
    simp -implicitDefEqProofs only [go_sem, a1]
    rw [keep (by decide) (putE_1 (.inl c1)), putE_1 (.inl c1)]
    unfold ceH ceL devL cellB
    refine sub_mk [] rfl rfl rfl ?_
    simp only [tmSub, hpSub, objSub, eqTm, eqHp, rn, lk, SV.ren, SV.renC, SV.renB, SV.renA, ren_ints, ren_strs, ren_pl, ren_svs, SV.v.injEq, Value.int.injEq, Body.ints.injEq, SV.ptr.injEq, SV.sl.injEq, Value.string.injEq, Value.bool.injEq, List.map_cons, List.map_nil, forall_const, Nat.reduceLT, Nat.lt_add_one, imp_self, true_and, and_true, and_self, ob_some, get_mk, lk_cons, ↓reduceIte, Nat.reduceEqDiff, ne_eq, not_true_eq_false, not_false_eq_true, Nat.one_ne_zero, Nat.zero_ne_one, Nat.succ_ne_self, Nat.reduceAdd, Bool.false_eq_true, false_implies, implies_true, reduceCtorEq]
    repeat' (first | rfl | apply And.intro)
  have a1 : seq name ⟨#[]⟩ = false := seq_nemp c1
  by_cases c2 : 32 < name.size
  · have a2 : decide ((name.size : Int) > 32) = true := decide_eq_true (by omega)
    simp -implicitDefEqProofs only [go_sem, a1, a2]
    rw [keep (by decide) (putE_1 (.inr c2)), putE_1 (.inr c2)]
    unfold ceH ceL devL cellB
    refine sub_mk [] rfl rfl rfl ?_
    simp only [tmSub, hpSub, objSub, eqTm, eqHp, rn, lk, SV.ren, SV.renC, SV.renB, SV.renA, ren_ints, ren_strs, ren_pl, ren_svs, SV.v.injEq, Value.int.injEq, Body.ints.injEq, SV.ptr.injEq, SV.sl.injEq, Value.string.injEq, Value.bool.injEq, List.map_cons, List.map_nil, forall_const, Nat.reduceLT, Nat.lt_add_one, imp_self, true_and, and_true, and_self, ob_some, get_mk, lk_cons, ↓reduceIte, Nat.reduceEqDiff, ne_eq, not_true_eq_false, not_false_eq_true, Nat.one_ne_zero, Nat.zero_ne_one, Nat.succ_ne_self, Nat.reduceAdd, Bool.false_eq_true, false_implies, implies_true, reduceCtorEq]
    repeat' (first | rfl | apply And.intro)
  have a2 : decide ((name.size : Int) > 32) = false := decide_eq_false (by omega)
  simp -implicitDefEqProofs only [go_sem, a1, a2]
  by_cases c3 : 65535 < text.size
  · have a3 : decide ((text.size : Int) > 65535) = true := decide_eq_true (by omega)
    have he : putE C.now name text = 4 := by unfold putE; rw [if_neg (by omega), if_pos c3]
    simp -implicitDefEqProofs only [go_sem, a3]
    rw [keep (by decide) he, he]
    unfold ceH ceL devL cellB
    refine sub_mk [] rfl rfl rfl ?_
    simp only [tmSub, hpSub, objSub, eqTm, eqHp, rn, lk, SV.ren, SV.renC, SV.renB, SV.renA, ren_ints, ren_strs, ren_pl, ren_svs, SV.v.injEq, Value.int.injEq, Body.ints.injEq, SV.ptr.injEq, SV.sl.injEq, Value.string.injEq, Value.bool.injEq, List.map_cons, List.map_nil, forall_const, Nat.reduceLT, Nat.lt_add_one, imp_self, true_and, and_true, and_self, ob_some, get_mk, lk_cons, ↓reduceIte, Nat.reduceEqDiff, ne_eq, not_true_eq_false, not_false_eq_true, Nat.one_ne_zero, Nat.zero_ne_one, Nat.succ_ne_self, Nat.reduceAdd, Bool.false_eq_true, false_implies, implies_true, reduceCtorEq]
    repeat' (first | rfl | apply And.intro)
  have a3 : decide ((text.size : Int) > 65535) = false := decide_eq_false (by omega)
  simp -implicitDefEqProofs only [go_sem, a3]
  by_cases c4 : (luS C.now name).isSome = false ∧ 64 ≤ C.now.length
  · have a4 : decide ((C.now.length : Int) ≥ 64) = true := decide_eq_true (by omega)
    have he : putE C.now name text = 6 := by unfold putE; rw [if_neg (by omega), if_neg c3, if_pos c4]
    have a5 := c4.1
    simp -implicitDefEqProofs only [go_sem, a4, a5, asM_so]
    rw [keep (by decide) he, he]
    unfold ceH ceL devL cellB
    refine sub_mk [] rfl rfl rfl ?_
    simp only [tmSub, hpSub, objSub, eqTm, eqHp, rn, lk, SV.ren, SV.renC, SV.renB, SV.renA, ren_ints, ren_strs, ren_pl, ren_svs, SV.v.injEq, Value.int.injEq, Body.ints.injEq, SV.ptr.injEq, SV.sl.injEq, Value.string.injEq, Value.bool.injEq, List.map_cons, List.map_nil, forall_const, Nat.reduceLT, Nat.lt_add_one, imp_self, true_and, and_true, and_self, ob_some, get_mk, lk_cons, ↓reduceIte, Nat.reduceEqDiff, ne_eq, not_true_eq_false, not_false_eq_true, Nat.one_ne_zero, Nat.zero_ne_one, Nat.succ_ne_self, Nat.reduceAdd, Bool.false_eq_true, false_implies, implies_true, reduceCtorEq]
    repeat' (first | rfl | apply And.intro)
  have he : putE C.now name text = 0 := by unfold putE; rw [if_neg (by omega), if_neg c3, if_neg c4]
  have hes : putEs C.now name text = upS C.now name (.agg ⟨[.string text]⟩) := if_pos he
  rw [he, hes]
  cases a5 : (luS C.now name).isSome with
  | true =>
    simp -implicitDefEqProofs only [go_sem, a5, asM_so, hk, spl1]
    unfold ceH ceL devL cellB
    refine sub_mk [] rfl rfl rfl ?_
    simp only [tmSub, hpSub, objSub, eqTm, eqHp, rn, lk, SV.ren, SV.renC, SV.renB, SV.renA, ren_ints, ren_strs, ren_pl, ren_svs, SV.v.injEq, Value.int.injEq, Body.ints.injEq, SV.ptr.injEq, SV.sl.injEq, Value.string.injEq, Value.bool.injEq, List.map_cons, List.map_nil, forall_const, Nat.reduceLT, Nat.lt_add_one, imp_self, true_and, and_true, and_self, ob_some, get_mk, lk_cons, ↓reduceIte, Nat.reduceEqDiff, ne_eq, not_true_eq_false, not_false_eq_true, Nat.one_ne_zero, Nat.zero_ne_one, Nat.succ_ne_self, Nat.reduceAdd, Bool.false_eq_true, false_implies, implies_true, reduceCtorEq]
    repeat' (first | rfl | apply And.intro)
  | false =>
    have a4 : decide ((C.now.length : Int) ≥ 64) = false := decide_eq_false (fun h => c4 ⟨a5, by omega⟩)
    simp -implicitDefEqProofs only [go_sem, a4, a5, asM_so, hk, spl1]
    unfold ceH ceL devL cellB
    refine sub_mk [] rfl rfl rfl ?_
    simp only [tmSub, hpSub, objSub, eqTm, eqHp, rn, lk, SV.ren, SV.renC, SV.renB, SV.renA, ren_ints, ren_strs, ren_pl, ren_svs, SV.v.injEq, Value.int.injEq, Body.ints.injEq, SV.ptr.injEq, SV.sl.injEq, Value.string.injEq, Value.bool.injEq, List.map_cons, List.map_nil, forall_const, Nat.reduceLT, Nat.lt_add_one, imp_self, true_and, and_true, and_self, ob_some, get_mk, lk_cons, ↓reduceIte, Nat.reduceEqDiff, ne_eq, not_true_eq_false, not_false_eq_true, Nat.one_ne_zero, Nat.zero_ne_one, Nat.succ_ne_self, Nat.reduceAdd, Bool.false_eq_true, false_implies, implies_true, reduceCtorEq]
    repeat' (first | rfl | apply And.intro)
theorem dropW {C : Ce} {name : ByteArray} (h : Es C.now) : fnVC CT mCDrop [.ptr 1 0, .v (.string name)] (ceH C d x) 8 fun v H' n' => Sub 8 ⟨[(0, .v (.bool (luS C.now name).isSome))], ceH { C with now := dlS C.now name } d x, 8⟩ ⟨[(0, v)], H', n'⟩ := by
  have hk := h.keys
  have hg := h.el name
  have hno : ∀ {es : List (Value × Value)}, luS es name = none → dlS es name = es := by
    intro es
    induction es with
    | nil => intro _; rfl
    | cons e es ih =>
      intro hl
      unfold luS at hl
      unfold dlS
      split at hl
      · cases hl
      · rename_i hc; rw [if_neg hc, ih hl]
  unfold mCDrop
  rw [show ceH C d x = ⟨ceL C d, x⟩ from rfl]
  unfold ceL devL cellB
  simp -implicitDefEqProofs only [↓fnVC, initTm]
  simp -implicitDefEqProofs only [go_sem]
  refine in_call mixT tCGet ?_
  unfold mCGet
  simp -implicitDefEqProofs only [↓fnVC, initTm]
  simp -implicitDefEqProofs only [go_sem, asM_so, hk, hg, spl1]
  cases a5 : (luS C.now name).isSome with
  | true =>
    simp -implicitDefEqProofs only [go_sem, a5, asM_so, hk, spl1]
    unfold ceH ceL devL cellB
    refine sub_mk [] rfl rfl rfl ?_
    simp only [tmSub, hpSub, objSub, eqTm, eqHp, rn, lk, SV.ren, SV.renC, SV.renB, SV.renA, ren_ints, ren_strs, ren_pl, ren_svs, SV.v.injEq, Value.int.injEq, Body.ints.injEq, SV.ptr.injEq, SV.sl.injEq, Value.string.injEq, Value.bool.injEq, List.map_cons, List.map_nil, forall_const, Nat.reduceLT, Nat.lt_add_one, imp_self, true_and, and_true, and_self, ob_some, get_mk, lk_cons, ↓reduceIte, Nat.reduceEqDiff, ne_eq, not_true_eq_false, not_false_eq_true, Nat.one_ne_zero, Nat.zero_ne_one, Nat.succ_ne_self, Nat.reduceAdd, Bool.false_eq_true, false_implies, implies_true, reduceCtorEq]
    repeat' (first | rfl | apply And.intro)
  | false =>
    rw [show dlS C.now name = C.now from hno (by cases hq : luS C.now name with | none => rfl | some v => rw [hq] at a5; cases a5)]
    simp -implicitDefEqProofs only [go_sem, a5, asM_so, hk, spl1]
    unfold ceH ceL devL cellB
    refine sub_mk [] rfl rfl rfl ?_
    simp only [tmSub, hpSub, objSub, eqTm, eqHp, rn, lk, SV.ren, SV.renC, SV.renB, SV.renA, ren_ints, ren_strs, ren_pl, ren_svs, SV.v.injEq, Value.int.injEq, Body.ints.injEq, SV.ptr.injEq, SV.sl.injEq, Value.string.injEq, Value.bool.injEq, List.map_cons, List.map_nil, forall_const, Nat.reduceLT, Nat.lt_add_one, imp_self, true_and, and_true, and_self, ob_some, get_mk, lk_cons, ↓reduceIte, Nat.reduceEqDiff, ne_eq, not_true_eq_false, not_false_eq_true, Nat.one_ne_zero, Nat.zero_ne_one, Nat.succ_ne_self, Nat.reduceAdd, Bool.false_eq_true, false_implies, implies_true, reduceCtorEq]
    repeat' (first | rfl | apply And.intro)
end
end Go.Sx