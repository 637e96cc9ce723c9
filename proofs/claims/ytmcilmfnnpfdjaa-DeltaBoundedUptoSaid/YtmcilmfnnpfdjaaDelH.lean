/- Delta: DeltaBounded. -/
import Derived.Test.YtmcilmfnnpfdjaaDelF

set_option linter.unusedVariables false
set_option linter.unusedSimpArgs false
set_option maxRecDepth 100000
namespace Go.Sx
attribute [local go_sem ↓] bind_mk intsB_mk strsB_mk svB_mk fnVC ob_some vc_skip vc_exit vc_ret vc_seq vc_block kSeq_normal kSeq_exit kSeq_ret kBlock_normal kBlock_exit kBlock_ret vc_reg vc_regD vc_cond condK_true condK_false vc_loop kLoop_exit kLoop_ret kRoll_normal kRoll_exit kRoll_ret vcOps_nil vcOps_cons gd_bool gd_undef put_some put_none vcT_fin vcT_pure vcT_act vcT_acts vcT_stop stab_none stab_some stabM_nil stabM_cons stabO_ld stabO_ldn stabO_slP stabO_b2s fldOf_ai fldOf_agg fldOf_ait fldOf_aggt intsOf_nil intsOf_cons strsOf_nil strsOf_cons c_omap ob_if lk_nil lk_cons ev_t ev_k z_mov z_pick z_bin z_binB z_binP z_un z_r2s z_conv z_s2b z_b2s z_mkM z_luM z_upM plV_v plV_agg mpOf_mp mpOf_nil mpUp_mp asM_mp luV_ok luV_v z_allocT aggOf_mk z_boxT z_alloc z_bld z_bldI z_rowI z_rowS z_ld z_ldn z_st z_stn asN_ptr asN_fn z_nilck z_fld z_fadr z_idxA z_idxP z_idxS z_idxV z_slS z_slL z_slP z_mk z_lenS z_lenL z_app appC_ints appC_pl appC_sv appC_strs isS_strs loose_ints loose_pl loose_sv z_slM z_callv callvK_fn callvK_f callvK_yl vc_rangeF rfEnd_eq rfGo_none rfGo_ret rfGo_exit yGo_mk yEnd_n yEnd_r yEnd_e yRdy_mk yMid_n putPs_nil putPs_cons leaf_v leaf_ptr leaf_sl leaf_yl leaf_mp z_appS z_appST z_appZ z_cpyS z_mkfn reps_int reps_str z_rowV z_slnil nilK_zero z_cpy z_call asT_tup z_extT z_box boxOf_ai boxOf_agg boxOf_int boxOf_str boxOf_bool boxOf_ptr boxOf_sl sbin_int sbin_str sbinB_mk sbinP_nn sbinP_pn sbinP_np i_add i_sub i_mul i_quo i_rem i_and i_or i_xor i_andNot i_shl i_shr i_eql i_neq i_lss i_leq i_gtr i_geq st_add st_eql st_neq st_lss st_leq st_gtr st_geq bo_eql bo_neq pt_eql pt_neq un_neg un_xor un_not asI_mk asB_mk asS_mk asP_mk asSl_mk asBy_mk bnd_none bnd_some get_mk hput_mk hdel_mk kill_eq wrOf_eq rowOf_eq rsvs_0 rsvs_1 rsvs_2 rsvs_3 rsv_t rsv_c1 rsv_cn nt_v nt_ptr nt_sl nt_agg nt_ai get_ints get_strs get_pl get_sv getN_ints getN_sv set_ints set_strs set_sv setN_ints setN_sv part_ints part_strs part_sv cat_ints cat_strs cat_sv over_ints over_strs over_sv ones_ints ones_strs evs_nil evs_cons condK_eqt condK_eqf det_callP V_ns V_nn V_gs V_gn obC_mk fresh_ev freshT_ev freshR_ev setN_plagg setN_intsv setN_svai setN_svagg over_intsv set_pl setN_pl setN_plai getN_pl getN_strs part_pl cat_pl over_pl over_plints z_mm
attribute [local go_sem] initTm ne_eq not_true_eq_false not_false_eq_true true_and and_true List.length_cons List.length_nil Int.toNat_natCast Nat.add_zero Nat.zero_add Nat.mul_one List.getElem?_cons_zero List.drop_zero List.take_length List.take_succ_cons List.take_zero List.take_nil List.drop_succ_cons Option.map_some Nat.le_refl implies_true List.getElem?_cons_succ decide_true decide_false Bool.not_true Bool.not_false beq_self_eq_true Nat.succ_ne_self Nat.one_ne_zero Nat.zero_ne_one vk_mk hk_mk nk_mk tok_eq plsOf_map intsOf_map bodyOf_pl bodyOf_ints bodyOf_strs bodyOf_sv part_aggv part_agg part_ai part_int part_str part_bool part_sl part_ptr part_nil numsOf_map u_int u_str u_bool u_pnil u_sl u_ptr u_oci u_ocs evq_nil evq_cons fillS_nil fillS_cons u_ocb ones_pl cells_sv cells_ints cells_strs cells_pl smms_nil smms_cons smm_min smm_max plsOf_nil List.nil_append List.all_cons List.all_nil Bool.and_self Bool.true_and Bool.and_true zws_len zw_len zi_len List.set_cons_zero List.set_cons_succ List.flatMap_cons List.flatMap_nil List.append_nil
attribute [local go_sem_proc] Nat.reduceEqDiff Nat.reduceAdd Nat.reduceMul Nat.reduceLT Nat.reduceLeDiff Nat.reduceSub Int.reduceToNat Int.reduceLE Int.reduceLT reduceCtorEq Int.reduceEq Int.reduceGT Int.reduceGE Int.reduceNeg
attribute [local go_sem_proc ↓] reduceIte
section
open Go.Proofs
variable {p q : Pt} {H : Hp} {n : Nat} {x : Nat → Option SO}
/-- Never more than the head says. -/
structure Bd (p : Pt) (z : Nat) : Prop where
  b : p.begun = true
  zz : p.size = z
  m : p.made.size + p.adds ≤ z
theorem bd_tk {z : Nat} (h : Bd p z) : Bd (tkP p).2 z := by
  obtain ⟨hb, hz, hm⟩ := h
  unfold tkP
  split
  · refine ⟨hb, hz, ?_⟩
    show (p.made ++ p.wait.extract 0 (min p.adds p.wait.size)).size + (p.adds - min p.adds p.wait.size) ≤ z
    rw [ByteArray.size_append, ex_size]
    omega
  split
  · exact ⟨hb, hz, hm⟩
  rename_i c1 c2
  rw [if_neg (by rw [hb]; simp)]
  split
  · exact ⟨hb, hz, hm⟩
  split
  · split
    · exact ⟨hb, hz, hm⟩
    · unfold cpP
      split
      · exact ⟨hb, hz, hm⟩
      split
      · exact ⟨hb, hz, hm⟩
      · refine ⟨hb, hz, ?_⟩
        show (p.made ++ _).size + p.adds ≤ z
        rw [ByteArray.size_append, ex_size]
        omega
  · split
    · exact ⟨hb, hz, hm⟩
    · unfold adP
      split
      · exact ⟨hb, hz, hm⟩
      split
      · exact ⟨hb, hz, hm⟩
      · exact ⟨hb, hz, by show p.made.size + num _ ≤ z; omega⟩
theorem bd_rn {z : Nat} : ∀ (g : Nat) {p : Pt}, Bd p z → Bd (rnP g p) z
  | 0, p, h => h
  | g + 1, p, h => by
    unfold rnP
    split
    · exact bd_rn g (bd_tk h)
    · exact h
theorem bd_wr {z : Nat} {c : ByteArray} (h : Bd p z) : Bd (wrP p c).2 z := by
  unfold wrP
  split
  · exact h
  split
  · exact h
  · have h1 : Bd (inP p c) z := ⟨h.b, h.zz, h.m⟩
    have h2 := bd_rn (muP (inP p c)) h1
    exact ⟨h2.b, h2.zz, h2.m⟩
theorem bd_close {z : Nat} (h : Bd p z) : (clP p).1.1.size ≤ z := by
  have hm := h.m
  unfold clP
  split
  · exact Nat.zero_le _
  split
  · exact Nat.zero_le _
  split
  · exact Nat.zero_le _
  · show p.made.size ≤ z; omega
theorem bd_head {old text : ByteArray} (ho : old.size ≤ 8192) (ht : text.size ≤ 10000) : Bd (wrP (nwP old) (tx (hdB old text))).2 text.size ∧ (wrP (nwP old) (tx (hdB old text))).2.made.size = 0 := by
  have h72 : (tx (hdB old text)).size = 72 := hdB_size
  obtain ⟨d1, d2, d3, d4⟩ := hd_fld (a := old.size) (b := text.size) (by omega) (by omega) (sha_size (bts old)) (sha_size (bts text))
  rw [← hdB_hdL] at d1 d2 d3 d4
  generalize tx (hdB old text) = s at *
  have hg := nw_good old
  have he : (nwP old).e = 0 := nw_e ho
  have hin := in_nw (old := old) (s := s) (by omega)
  obtain ⟨i1, i2⟩ := in_ok hg he (s := s) (by omega)
  rw [hin] at i1 i2
  have htk : tkP { nwP old with seen := s.size, wait := s } = hdP { nwP old with seen := s.size, wait := s } := by
    unfold tkP
    rw [if_neg (fun h => absurd h.1 (by show ¬0 < 0; decide)), if_neg (fun h => h.elim (fun h => absurd h (by show ¬0 < 0; decide)) (fun h => by have h : s.size = 0 := h; omega))]
    exact if_pos rfl
  have hhd : (hdP { nwP old with seen := s.size, wait := s }).1 = true ∧ Bd (hdP { nwP old with seen := s.size, wait := s }).2 text.size ∧ (hdP { nwP old with seen := s.size, wait := s }).2.wait.size = 0 ∧ (hdP { nwP old with seen := s.size, wait := s }).2.made.size = 0 := by
    unfold hdP
    rw [if_neg (by show ¬s.size < 72; omega)]
    exact ⟨rfl, ⟨rfl, d3, Nat.zero_le _⟩, by show (s.extract 72 s.size).size = 0; rw [ex_size]; omega, rfl⟩
  have hst := run_step i1 i2 (by exact he) (by rw [htk]; exact hhd.1)
  rw [wr_out he rfl, hin]
  show Bd (outP (runP { nwP old with seen := s.size, wait := s })) text.size ∧ (outP (runP { nwP old with seen := s.size, wait := s })).made.size = 0
  rw [hst, htk]
  have h2 := hhd.2.1
  have hw := hhd.2.2.1
  have hrs : runP (hdP { nwP old with seen := s.size, wait := s }).2 = (hdP { nwP old with seen := s.size, wait := s }).2 := run_stop (by unfold tkP; rw [if_neg (fun h => h.2 hw), if_pos (.inr hw)])
  rw [hrs]
  exact ⟨⟨h2.b, h2.zz, h2.m⟩, hhd.2.2.2⟩
def cpv (f k : Nat) : ByteArray := ⟨#[1]⟩ ++ tx (be f 4) ++ tx (be k 2)
def adv (s : ByteArray) : ByteArray := ⟨#[2]⟩ ++ tx (be s.size 2) ++ s
theorem cpv_size {f k : Nat} : (cpv f k).size = 7 := by unfold cpv; rw [ByteArray.size_append, ByteArray.size_append, tx_sz, tx_sz, be_len, be_len]; rfl
theorem adv_size {s : ByteArray} : (adv s).size = 3 + s.size := by unfold adv; rw [ByteArray.size_append, ByteArray.size_append, tx_sz, be_len]; rfl
theorem rcopyS {f k : Nat} (hf : f ≤ 1048576) (hk : k ≤ 1048576) : SpecAt Try.prog nrCopy [.v (.int .i64 f), .v (.int .i64 k)] H n (.v (.string (cpv f k))) H n := lift_pure (okT.spec trCopy (by
  unfold mrCopy
  simp -implicitDefEqProofs only [↓fnVC, initTm]
  have u1 : IntKind.u64.wrap (f : Int) = (f : Int) := by rw [wrap_u64]; omega
  have u2 : IntKind.u64.wrap (k : Int) = (k : Int) := by rw [wrap_u64]; omega
  have z1 : (tx (be f 4)).size = 4 := by rw [tx_sz, be_len]
  have z2 : (tx (be k 2)).size = 2 := by rw [tx_sz, be_len]
  have za : (#[(1 : UInt8)]).size = 1 := rfl
  simp -implicitDefEqProofs only [go_sem, u1]
  refine at_call trNumber1 (rnum1S (y := f) (k := 4) (by decide) (by decide) (by omega)) ?_
  simp -implicitDefEqProofs only [go_sem, u2]
  refine ⟨by omega, ?_⟩
  refine at_call trNumber1 (rnum1S (y := k) (k := 2) (by decide) (by decide) (by omega)) ?_
  simp -implicitDefEqProofs only [go_sem]
  refine ⟨by omega, ?_⟩
  exact sub_val rfl (by decide) (by decide) rfl)) rfl
theorem raddS {s : ByteArray} (hs : s.size ≤ 1048576) : SpecAt Try.prog nrAdd [.v (.string s)] H n (.v (.string (adv s))) H n := lift_pure (okT.spec trAdd (by
  unfold mrAdd
  simp -implicitDefEqProofs only [↓fnVC, initTm]
  have u1 : IntKind.u64.wrap (s.size : Int) = (s.size : Int) := by rw [wrap_u64]; omega
  have z1 : (tx (be s.size 2)).size = 2 := by rw [tx_sz, be_len]
  have za : (#[(2 : UInt8)]).size = 1 := rfl
  simp -implicitDefEqProofs only [go_sem, u1]
  refine at_call trNumber1 (rnum1S (y := s.size) (k := 2) (by decide) (by decide) (by omega)) ?_
  simp -implicitDefEqProofs only [go_sem]
  refine ⟨by omega, by omega, ?_⟩
  exact sub_val rfl (by decide) (by decide) rfl)) rfl
def bdT (O X T : ByteArray) (m j : Nat) : List (Nat × SV) := [(0, .v (.string O)), (7, .v (.string X)), (8, .v (.string T)), (9, .ptr 2 0), (52, .sl 1 0 m 1), (53, .v (.int .i64 m)), (54, .v (.int .i64 j))]
def bdF (O X : ByteArray) (cs : List Int) (m : Nat) (x : Nat → Option SO) (t : Nat × ByteArray × Pt) : St :=
  if t.2.2.made.size = 0 then ⟨bdT O X t.2.1 m t.1, ⟨[(1, some ⟨false, .ints .u16 cs⟩), (2, some (patE t.2.2)), (3, some ⟨false, ghP 2⟩)], x⟩, 4⟩
  else ⟨bdT O X t.2.1 m t.1, ⟨[(1, some ⟨false, .ints .u16 cs⟩), (2, some (patN t.2.2 2 4)), (3, some ⟨false, ghP 2⟩), (4, some ⟨true, .ints .u8 (bts t.2.2.made)⟩), (5, some ⟨false, .mp (.shp 4 5 none)⟩)], x⟩, 6⟩
theorem bdF_E {O X : ByteArray} {cs : List Int} {m : Nat} {t : Nat × ByteArray × Pt} (h : t.2.2.made.size = 0) : bdF O X cs m x t = ⟨bdT O X t.2.1 m t.1, ⟨[(1, some ⟨false, .ints .u16 cs⟩), (2, some (patE t.2.2)), (3, some ⟨false, ghP 2⟩)], x⟩, 4⟩ := if_pos h
theorem bdF_N {O X : ByteArray} {cs : List Int} {m : Nat} {t : Nat × ByteArray × Pt} (h : ¬t.2.2.made.size = 0) : bdF O X cs m x t = ⟨bdT O X t.2.1 m t.1, ⟨[(1, some ⟨false, .ints .u16 cs⟩), (2, some (patN t.2.2 2 4)), (3, some ⟨false, ghP 2⟩), (4, some ⟨true, .ints .u8 (bts t.2.2.made)⟩), (5, some ⟨false, .mp (.shp 4 5 none)⟩)], x⟩, 6⟩ := if_neg h
set_option maxHeartbeats 4000000 in
theorem boundedW {old0 : ByteArray} {cs : List Int} {m sz : Nat} (hsz : sz ≤ 65535) (ho : old0.size ≤ 1048576) (hm : m ≤ cs.length) (hm2 : m ≤ 1048576) (hcs : ∀ c ∈ cs, 0 ≤ c ∧ c ≤ 65535) :
    fnVC CT mDeltaBounded [.v (.string old0), .v (.int .u16 sz), .sl 1 0 m 1] ⟨[(1, some ⟨false, .ints .u16 cs⟩)], x⟩ 2 fun v H' n' => Sub 2 ⟨[(0, .v (.bool true))], ⟨[], x⟩, 2⟩ ⟨[(0, v)], H', n'⟩ := by
  unfold mDeltaBounded
  simp -implicitDefEqProofs only [↓fnVC, initTm]
  simp -implicitDefEqProofs only [go_sem]
  refine at_call tturns turnsS ?_
  have mn : min (old0.size : Int) 500 = ((min old0.size 500 : Nat) : Int) := by omega
  have mnl : min old0.size 500 ≤ old0.size := Nat.min_le_left _ _
  have mnr : min old0.size 500 ≤ 500 := Nat.min_le_right _ _
  have w1 : IntKind.i64.wrap (sz : Int) = (sz : Int) := wrap_i64 (by omega) (by omega)
  have t1 : ((sz : Int)).tmod 9000 = ((sz % 9000 : Nat) : Int) := by rw [Int.tmod_eq_emod_of_nonneg (by omega)]; omega
  generalize hc : min old0.size 500 = c at mn mnl mnr
  simp -implicitDefEqProofs only [go_sem, mn, w1, t1]
  have za : (#[(111 : UInt8)]).size = 1 := rfl
  have hcz : (old0.extract 0 c).size = c := by rw [ex_size]; omega
  have hOz : ((⟨#[111]⟩ : ByteArray) ++ old0.extract 0 c).size = 1 + c := by rw [ByteArray.size_append, hcz]; rfl
  have hXz : (tx (List.take (sz % 9000) (List.replicate (sz % 9000) 0))).size = sz % 9000 := by rw [tx_sz, List.length_take, List.length_replicate]; omega
  refine ⟨⟨by omega, by omega⟩, by omega, ⟨by omega, by omega, by omega, by omega⟩, by rw [List.length_replicate]; exact Nat.le_refl _, ?_⟩
  generalize (⟨#[111]⟩ : ByteArray) ++ old0.extract 0 c = O at hOz
  generalize tx (List.take (sz % 9000) (List.replicate (sz % 9000) 0)) = X at hXz
  have hX1 : X.size ≤ 8999 := by omega
  generalize sz % 9000 = xz at hXz
  have hO1 : 1 ≤ O.size ∧ O.size ≤ 501 := by omega
  refine at_call trHead (rheadS (by omega) (by omega)) ?_
  obtain ⟨hbd, hm0⟩ := bd_head (old := O) (text := X) (by omega) (by omega)
  have hps0 := ps_step (c := tx (hdB O X)) (ps_nil O) (by rw [hdB_size]; decide)
  rw [ba_nil] at hps0
  obtain ⟨hps1, hse1⟩ := hps0
  have h72 : (tx (hdB O X)).size = 72 := hdB_size
  generalize tx (hdB O X) = P0 at hbd hm0 hps1 hse1 h72 ⊢
  simp -implicitDefEqProofs only [go_sem]
  refine at_call tDNew (newS (by decide)) ?_
  simp -implicitDefEqProofs only [go_sem]
  refine at_call tDWrite (wEE (i := 3) (g := 4) ⟨by rfl, ⟨_, by rfl⟩, by decide⟩ (nw_good O) (by omega) rfl hm0) ?_
  rw [hse1]
  simp -implicitDefEqProofs only [go_sem]
  refine at_call trGo (goS (by omega)) ?_
  unfold gV
  have s0 : ∀ {T : ByteArray}, decide ((goQ O T).e = (goQ O T).e) = true := fun {T} => decide_eq_true rfl
  have mn3 : min (m : Int) 300 = ((min m 300 : Nat) : Int) := by omega
  have mle : min m 300 ≤ m := Nat.min_le_left _ _
  have ml3 : min m 300 ≤ 300 := Nat.min_le_right _ _
  generalize hmm : min m 300 = m3 at mn3 mle ml3
  simp -implicitDefEqProofs only [go_sem, s0, mn3]
  refine ⟨⟨by omega, by omega⟩, ?_⟩
  refine loop_fam (fun (t : Nat × ByteArray × Pt) => Ps O t.2.1 t.2.2 ∧ Bd t.2.2 X.size ∧ t.1 ≤ m3 ∧ t.2.1.size ≤ 72 + 50 * t.1)
    (bdF O X cs m3 x) (fun t => m3 - t.1) (0, P0, (wrP (nwP O) P0).2) ⟨hps1, hbd, Nat.zero_le _, by show P0.size ≤ 72 + 50 * 0; omega⟩ ?_ ?_
  · rw [bdF_E (by exact hm0)]
    unfold bdT patE ghP
    refine sub_mk [(2, 3), (3, 4)] rfl rfl rfl ?_
    simp only [tmSub, hpSub, objSub, eqTm, eqHp, rn, lk, SV.ren, SV.renC, SV.renB, SV.renA, ren_ints, ren_strs, ren_pl, ren_svs, SV.v.injEq, Value.int.injEq, Body.ints.injEq, SV.ptr.injEq, SV.sl.injEq, Value.string.injEq, Value.bool.injEq, List.map_cons, List.map_nil, forall_const, Nat.reduceLT, Nat.lt_add_one, imp_self, true_and, and_true, and_self, ob_some, get_mk, lk_cons, ↓reduceIte, Nat.reduceEqDiff, ne_eq, not_true_eq_false, not_false_eq_true, Nat.one_ne_zero, Nat.zero_ne_one, Nat.succ_ne_self, Nat.reduceAdd, Bool.false_eq_true, false_implies, implies_true, reduceCtorEq]
    repeat' (first | rfl | apply And.intro)
  · rintro ⟨j, T, p⟩ ⟨hps, hb, hj, hT⟩
    have hps : Ps O T p := hps
    have hb : Bd p X.size := hb
    have hj : j ≤ m3 := hj
    have hT : T.size ≤ 72 + 50 * j := hT
    by_cases hz : p.made.size = 0
    · rw [bdF_E (by exact hz)]
      unfold bdT
      simp -implicitDefEqProofs only [go_sem]
      by_cases c0 : j < m3
      · have b0 : decide ((j : Int) < m3) = true := decide_eq_true (by omega)
        obtain ⟨c, hc, hc2⟩ : ∃ c : Nat, cs.getD j 0 = (c : Int) ∧ c ≤ 65535 := by
          have hmem : cs.getD j 0 ∈ cs := by rw [List.getD_eq_getElem?_getD, List.getElem?_eq_getElem (by omega)]; exact List.getElem_mem _
          have := hcs _ hmem
          exact ⟨(cs.getD j 0).toNat, by omega, by omega⟩
        have q1 : IntKind.i64.wrap (c : Int) = (c : Int) := wrap_i64 (by omega) (by omega)
        have q2 : ((c : Int)).tmod (O.size : Int) = ((c % O.size : Nat) : Int) := by rw [Int.tmod_eq_emod_of_nonneg (by omega)]; exact (Int.natCast_emod _ _).symm
        have q3 : ((c : Int)).tdiv 7 = ((c / 7 : Nat) : Int) := by rw [Int.tdiv_eq_ediv_of_nonneg (by omega)]; omega
        have q4 : IntKind.i64.wrap ((c / 7 : Nat) : Int) = ((c / 7 : Nat) : Int) := wrap_i64 (by omega) (by omega)
        have q4b : IntKind.u16.wrap ((c / 7 : Nat) : Int) = ((c / 7 : Nat) : Int) := by rw [wrap_u16]; omega
        have q5 : (((c / 7 : Nat) : Int)).tmod (O.size : Int) = ((c / 7 % O.size : Nat) : Int) := by rw [Int.tmod_eq_emod_of_nonneg (by omega)]; exact (Int.natCast_emod _ _).symm
        have l1 : c % O.size < O.size := Nat.mod_lt _ (by omega)
        have l2 : c / 7 % O.size < O.size := Nat.mod_lt _ (by omega)
        have q6 : IntKind.i64.wrap (1 + ((c / 7 % O.size : Nat) : Int)) = ((1 + c / 7 % O.size : Nat) : Int) := by rw [wrap_i64 (by omega) (by omega)]; omega
        have q7 : ((c : Int)).tmod 3 = ((c % 3 : Nat) : Int) := by rw [Int.tmod_eq_emod_of_nonneg (by omega)]; omega
        have q8 : ((c : Int)).tmod 40 = ((c % 40 : Nat) : Int) := by rw [Int.tmod_eq_emod_of_nonneg (by omega)]; omega
        have l3 : c % 40 < 40 := Nat.mod_lt _ (by omega)
        have q9 : IntKind.i64.wrap (1 + ((c % 40 : Nat) : Int)) = ((1 + c % 40 : Nat) : Int) := by rw [wrap_i64 (by omega) (by omega)]; omega
        have l4 : ((O.size : Int) = 0) = False := eq_false (by omega)
        simp -implicitDefEqProofs only [go_sem, b0, hc, q1, q2, q3, q4, q4b, q5, q6, l4]
        refine ⟨⟨by omega, by omega⟩, by omega, ?_⟩
        refine at_call trCopy (rcopyS (by omega) (by omega)) ?_
        simp -implicitDefEqProofs only [go_sem, q7]
        have hcv : (cpv (c % O.size) (1 + c / 7 % O.size)).size = 7 := cpv_size
        generalize cpv (c % O.size) (1 + c / 7 % O.size) = M0 at hcv
        by_cases c3 : c % 3 = 0
        · have b3 : decide (((c % 3 : Nat) : Int) = 0) = true := decide_eq_true (by omega)
          simp -implicitDefEqProofs only [go_sem, b3, q1, q8, q9]
          have hz0 : (tx (List.take (1 + c % 40) (List.replicate (1 + c % 40) 0))).size = 1 + c % 40 := by rw [tx_sz, List.length_take, List.length_replicate]; omega
          refine ⟨⟨by omega, by omega, by omega, by omega⟩, by rw [List.length_replicate]; exact Nat.le_refl _, ?_⟩
          generalize tx (List.take (1 + c % 40) (List.replicate (1 + c % 40) 0)) = Z at hz0
          refine at_call trAdd (raddS (by omega)) ?_
          have hav : (adv Z).size = 3 + Z.size := adv_size
          generalize adv Z = M at hav ⊢
          simp -implicitDefEqProofs only [go_sem]
          refine ⟨by omega, ?_⟩
          simp -implicitDefEqProofs only [go_sem]
          obtain ⟨hst, hse⟩ := ps_step (c := M) hps (by omega)
          have hw := wr_good (s := M) hps.good (by omega)
          have hb2 := bd_wr (c := M) hb
          have w9 : IntKind.i64.wrap ((j : Int) + 1) = ((j + 1 : Nat) : Int) := by rw [wrap_i64 (by omega) (by omega)]; omega

          by_cases hz2 : (wrP p M).2.made.size = 0
          · refine at_call tDWrite (wEE (i := 2) (g := 3) ⟨by rfl, ⟨_, by rfl⟩, by decide⟩ hps.good (by omega) hz hz2) ?_
            generalize (wrP p M).2 = p2 at hst hz2 hw hb2 ⊢
            rw [hse]
            simp -implicitDefEqProofs only [go_sem]
            refine at_call trGo (goS (by rw [ByteArray.size_append]; omega)) ?_
            unfold gV
            simp -implicitDefEqProofs only [go_sem, s0]
            refine at_call tDMade (madeES hz2 (by rfl)) ?_
            have s1 : decide ((p2.made.size : Int) > X.size) = false := decide_eq_false (by have := hb2.m; omega)
            simp -implicitDefEqProofs only [go_sem, s1, w9]
            refine kLoop_mk (j + 1, T ++ M, p2) ⟨hst, hb2, by show j + 1 ≤ m3; omega, by show (T ++ M).size ≤ 72 + 50 * (j + 1); rw [ByteArray.size_append]; omega⟩ (by show m3 - (j + 1) < m3 - j; omega) ?_
            rw [bdF_E (by exact hz2)]
            unfold bdT
            refine sub_mk [] rfl rfl rfl ?_
            simp only [tmSub, hpSub, objSub, eqTm, eqHp, rn, lk, SV.ren, SV.renC, SV.renB, SV.renA, ren_ints, ren_strs, ren_pl, ren_svs, SV.v.injEq, Value.int.injEq, Body.ints.injEq, SV.ptr.injEq, SV.sl.injEq, Value.string.injEq, Value.bool.injEq, List.map_cons, List.map_nil, forall_const, Nat.reduceLT, Nat.lt_add_one, imp_self, true_and, and_true, and_self, ob_some, get_mk, lk_cons, ↓reduceIte, Nat.reduceEqDiff, ne_eq, not_true_eq_false, not_false_eq_true, Nat.one_ne_zero, Nat.zero_ne_one, Nat.succ_ne_self, Nat.reduceAdd, Bool.false_eq_true, false_implies, implies_true, reduceCtorEq, patN]
            repeat' (first | rfl | apply And.intro)
          · refine at_call tDWrite (wEN (i := 2) (g := 3) ⟨by rfl, ⟨_, by rfl⟩, by decide⟩ hps.good (by omega) hz hz2 (by decide)) ?_
            generalize (wrP p M).2 = p2 at hst hz2 hw hb2 ⊢
            rw [hse]
            simp -implicitDefEqProofs only [go_sem]
            refine at_call trGo (goS (by rw [ByteArray.size_append]; omega)) ?_
            unfold gV
            simp -implicitDefEqProofs only [go_sem, s0]
            refine at_call tDMade (madeNS (r := 5) (by rfl)) ?_
            have s1 : decide ((p2.made.size : Int) > X.size) = false := decide_eq_false (by have := hb2.m; omega)
            simp -implicitDefEqProofs only [go_sem, s1, w9]
            refine kLoop_mk (j + 1, T ++ M, p2) ⟨hst, hb2, by show j + 1 ≤ m3; omega, by show (T ++ M).size ≤ 72 + 50 * (j + 1); rw [ByteArray.size_append]; omega⟩ (by show m3 - (j + 1) < m3 - j; omega) ?_
            rw [bdF_N (by exact hz2)]
            unfold bdT
            refine sub_mk [(4, 5), (5, 6)] rfl rfl rfl ?_
            simp only [tmSub, hpSub, objSub, eqTm, eqHp, rn, lk, SV.ren, SV.renC, SV.renB, SV.renA, ren_ints, ren_strs, ren_pl, ren_svs, SV.v.injEq, Value.int.injEq, Body.ints.injEq, SV.ptr.injEq, SV.sl.injEq, Value.string.injEq, Value.bool.injEq, List.map_cons, List.map_nil, forall_const, Nat.reduceLT, Nat.lt_add_one, imp_self, true_and, and_true, and_self, ob_some, get_mk, lk_cons, ↓reduceIte, Nat.reduceEqDiff, ne_eq, not_true_eq_false, not_false_eq_true, Nat.one_ne_zero, Nat.zero_ne_one, Nat.succ_ne_self, Nat.reduceAdd, Bool.false_eq_true, false_implies, implies_true, reduceCtorEq, patN]
            repeat' (first | rfl | apply And.intro)
        · have b3 : decide (((c % 3 : Nat) : Int) = 0) = false := decide_eq_false (by omega)
          obtain ⟨M, hM⟩ : ∃ M, M0 = M := ⟨_, rfl⟩
          rw [hM] at hcv ⊢
          simp -implicitDefEqProofs only [go_sem, b3]
          refine ⟨by omega, ?_⟩
          simp -implicitDefEqProofs only [go_sem]
          obtain ⟨hst, hse⟩ := ps_step (c := M) hps (by omega)
          have hw := wr_good (s := M) hps.good (by omega)
          have hb2 := bd_wr (c := M) hb
          have w9 : IntKind.i64.wrap ((j : Int) + 1) = ((j + 1 : Nat) : Int) := by rw [wrap_i64 (by omega) (by omega)]; omega

          by_cases hz2 : (wrP p M).2.made.size = 0
          · refine at_call tDWrite (wEE (i := 2) (g := 3) ⟨by rfl, ⟨_, by rfl⟩, by decide⟩ hps.good (by omega) hz hz2) ?_
            generalize (wrP p M).2 = p2 at hst hz2 hw hb2 ⊢
            rw [hse]
            simp -implicitDefEqProofs only [go_sem]
            refine at_call trGo (goS (by rw [ByteArray.size_append]; omega)) ?_
            unfold gV
            simp -implicitDefEqProofs only [go_sem, s0]
            refine at_call tDMade (madeES hz2 (by rfl)) ?_
            have s1 : decide ((p2.made.size : Int) > X.size) = false := decide_eq_false (by have := hb2.m; omega)
            simp -implicitDefEqProofs only [go_sem, s1, w9]
            refine kLoop_mk (j + 1, T ++ M, p2) ⟨hst, hb2, by show j + 1 ≤ m3; omega, by show (T ++ M).size ≤ 72 + 50 * (j + 1); rw [ByteArray.size_append]; omega⟩ (by show m3 - (j + 1) < m3 - j; omega) ?_
            rw [bdF_E (by exact hz2)]
            unfold bdT
            refine sub_mk [] rfl rfl rfl ?_
            simp only [tmSub, hpSub, objSub, eqTm, eqHp, rn, lk, SV.ren, SV.renC, SV.renB, SV.renA, ren_ints, ren_strs, ren_pl, ren_svs, SV.v.injEq, Value.int.injEq, Body.ints.injEq, SV.ptr.injEq, SV.sl.injEq, Value.string.injEq, Value.bool.injEq, List.map_cons, List.map_nil, forall_const, Nat.reduceLT, Nat.lt_add_one, imp_self, true_and, and_true, and_self, ob_some, get_mk, lk_cons, ↓reduceIte, Nat.reduceEqDiff, ne_eq, not_true_eq_false, not_false_eq_true, Nat.one_ne_zero, Nat.zero_ne_one, Nat.succ_ne_self, Nat.reduceAdd, Bool.false_eq_true, false_implies, implies_true, reduceCtorEq, patN]
            repeat' (first | rfl | apply And.intro)
          · refine at_call tDWrite (wEN (i := 2) (g := 3) ⟨by rfl, ⟨_, by rfl⟩, by decide⟩ hps.good (by omega) hz hz2 (by decide)) ?_
            generalize (wrP p M).2 = p2 at hst hz2 hw hb2 ⊢
            rw [hse]
            simp -implicitDefEqProofs only [go_sem]
            refine at_call trGo (goS (by rw [ByteArray.size_append]; omega)) ?_
            unfold gV
            simp -implicitDefEqProofs only [go_sem, s0]
            refine at_call tDMade (madeNS (r := 4) (by rfl)) ?_
            have s1 : decide ((p2.made.size : Int) > X.size) = false := decide_eq_false (by have := hb2.m; omega)
            simp -implicitDefEqProofs only [go_sem, s1, w9]
            refine kLoop_mk (j + 1, T ++ M, p2) ⟨hst, hb2, by show j + 1 ≤ m3; omega, by show (T ++ M).size ≤ 72 + 50 * (j + 1); rw [ByteArray.size_append]; omega⟩ (by show m3 - (j + 1) < m3 - j; omega) ?_
            rw [bdF_N (by exact hz2)]
            unfold bdT
            refine sub_mk [] rfl rfl rfl ?_
            simp only [tmSub, hpSub, objSub, eqTm, eqHp, rn, lk, SV.ren, SV.renC, SV.renB, SV.renA, ren_ints, ren_strs, ren_pl, ren_svs, SV.v.injEq, Value.int.injEq, Body.ints.injEq, SV.ptr.injEq, SV.sl.injEq, Value.string.injEq, Value.bool.injEq, List.map_cons, List.map_nil, forall_const, Nat.reduceLT, Nat.lt_add_one, imp_self, true_and, and_true, and_self, ob_some, get_mk, lk_cons, ↓reduceIte, Nat.reduceEqDiff, ne_eq, not_true_eq_false, not_false_eq_true, Nat.one_ne_zero, Nat.zero_ne_one, Nat.succ_ne_self, Nat.reduceAdd, Bool.false_eq_true, false_implies, implies_true, reduceCtorEq, patN]
            repeat' (first | rfl | apply And.intro)
      have b0 : decide ((j : Int) < m3) = false := decide_eq_false (by omega)
      simp -implicitDefEqProofs only [go_sem, b0]
      have hco := cl_ok hps.good.ok
      have hcl := ps_close hps
      have hcz := bd_close hb
      have s1 : seq (clP p).1.1 (clP p).1.1 = true := seq_self _
      have s2 : decide ((clP p).1.2 = (clP p).1.2) = true := decide_eq_true rfl
      have s3 : decide (((clP p).1.1.size : Int) ≤ X.size) = true := decide_eq_true (by omega)
      refine at_call tDClose (cEE (i := 2) (g := 3) ⟨by rfl, ⟨_, by rfl⟩, by decide⟩ hps.good.ok hz) ?_
      unfold clV
      simp -implicitDefEqProofs only [go_sem]
      refine at_call trDApply (rapplyS (by omega)) ?_
      rw [show apV O T = clV (goQ O T) from rfl]
      unfold clV
      rw [← hcl]
      simp -implicitDefEqProofs only [go_sem, s1, s2, s3]
      refine sub_mk [] rfl rfl rfl ?_
      simp only [tmSub, hpSub, objSub, eqTm, eqHp, rn, lk, SV.ren, SV.renC, SV.renB, SV.renA, ren_ints, ren_strs, ren_pl, ren_svs, SV.v.injEq, Value.int.injEq, Body.ints.injEq, SV.ptr.injEq, SV.sl.injEq, Value.string.injEq, Value.bool.injEq, List.map_cons, List.map_nil, forall_const, Nat.reduceLT, Nat.lt_add_one, imp_self, true_and, and_true, and_self, ob_some, get_mk, lk_cons, ↓reduceIte, Nat.reduceEqDiff, ne_eq, not_true_eq_false, not_false_eq_true, Nat.one_ne_zero, Nat.zero_ne_one, Nat.succ_ne_self, Nat.reduceAdd, Bool.false_eq_true, false_implies, implies_true, reduceCtorEq]
      try trivial
    rw [bdF_N (by exact hz)]
    unfold bdT
    simp -implicitDefEqProofs only [go_sem]
    by_cases c0 : j < m3
    · have b0 : decide ((j : Int) < m3) = true := decide_eq_true (by omega)
      obtain ⟨c, hc, hc2⟩ : ∃ c : Nat, cs.getD j 0 = (c : Int) ∧ c ≤ 65535 := by
        have hmem : cs.getD j 0 ∈ cs := by rw [List.getD_eq_getElem?_getD, List.getElem?_eq_getElem (by omega)]; exact List.getElem_mem _
        have := hcs _ hmem
        exact ⟨(cs.getD j 0).toNat, by omega, by omega⟩
      have q1 : IntKind.i64.wrap (c : Int) = (c : Int) := wrap_i64 (by omega) (by omega)
      have q2 : ((c : Int)).tmod (O.size : Int) = ((c % O.size : Nat) : Int) := by rw [Int.tmod_eq_emod_of_nonneg (by omega)]; exact (Int.natCast_emod _ _).symm
      have q3 : ((c : Int)).tdiv 7 = ((c / 7 : Nat) : Int) := by rw [Int.tdiv_eq_ediv_of_nonneg (by omega)]; omega
      have q4 : IntKind.i64.wrap ((c / 7 : Nat) : Int) = ((c / 7 : Nat) : Int) := wrap_i64 (by omega) (by omega)
      have q4b : IntKind.u16.wrap ((c / 7 : Nat) : Int) = ((c / 7 : Nat) : Int) := by rw [wrap_u16]; omega
      have q5 : (((c / 7 : Nat) : Int)).tmod (O.size : Int) = ((c / 7 % O.size : Nat) : Int) := by rw [Int.tmod_eq_emod_of_nonneg (by omega)]; exact (Int.natCast_emod _ _).symm
      have l1 : c % O.size < O.size := Nat.mod_lt _ (by omega)
      have l2 : c / 7 % O.size < O.size := Nat.mod_lt _ (by omega)
      have q6 : IntKind.i64.wrap (1 + ((c / 7 % O.size : Nat) : Int)) = ((1 + c / 7 % O.size : Nat) : Int) := by rw [wrap_i64 (by omega) (by omega)]; omega
      have q7 : ((c : Int)).tmod 3 = ((c % 3 : Nat) : Int) := by rw [Int.tmod_eq_emod_of_nonneg (by omega)]; omega
      have q8 : ((c : Int)).tmod 40 = ((c % 40 : Nat) : Int) := by rw [Int.tmod_eq_emod_of_nonneg (by omega)]; omega
      have l3 : c % 40 < 40 := Nat.mod_lt _ (by omega)
      have q9 : IntKind.i64.wrap (1 + ((c % 40 : Nat) : Int)) = ((1 + c % 40 : Nat) : Int) := by rw [wrap_i64 (by omega) (by omega)]; omega
      have l4 : ((O.size : Int) = 0) = False := eq_false (by omega)
      simp -implicitDefEqProofs only [go_sem, b0, hc, q1, q2, q3, q4, q4b, q5, q6, l4]
      refine ⟨⟨by omega, by omega⟩, by omega, ?_⟩
      refine at_call trCopy (rcopyS (by omega) (by omega)) ?_
      simp -implicitDefEqProofs only [go_sem, q7]
      have hcv : (cpv (c % O.size) (1 + c / 7 % O.size)).size = 7 := cpv_size
      generalize cpv (c % O.size) (1 + c / 7 % O.size) = M0 at hcv
      by_cases c3 : c % 3 = 0
      · have b3 : decide (((c % 3 : Nat) : Int) = 0) = true := decide_eq_true (by omega)
        simp -implicitDefEqProofs only [go_sem, b3, q1, q8, q9]
        have hz0 : (tx (List.take (1 + c % 40) (List.replicate (1 + c % 40) 0))).size = 1 + c % 40 := by rw [tx_sz, List.length_take, List.length_replicate]; omega
        refine ⟨⟨by omega, by omega, by omega, by omega⟩, by rw [List.length_replicate]; exact Nat.le_refl _, ?_⟩
        generalize tx (List.take (1 + c % 40) (List.replicate (1 + c % 40) 0)) = Z at hz0
        refine at_call trAdd (raddS (by omega)) ?_
        have hav : (adv Z).size = 3 + Z.size := adv_size
        generalize adv Z = M at hav ⊢
        simp -implicitDefEqProofs only [go_sem]
        refine ⟨by omega, ?_⟩
        simp -implicitDefEqProofs only [go_sem]
        obtain ⟨hst, hse⟩ := ps_step (c := M) hps (by omega)
        have hw := wr_good (s := M) hps.good (by omega)
        have hb2 := bd_wr (c := M) hb
        have w9 : IntKind.i64.wrap ((j : Int) + 1) = ((j + 1 : Nat) : Int) := by rw [wrap_i64 (by omega) (by omega)]; omega

        have hz2 : ¬(wrP p M).2.made.size = 0 := by have := hw.2.1; omega
        refine at_call tDWrite (wNN (i := 2) (g := 3) (r := 4) (k := 5) ⟨by rfl, ⟨_, by rfl⟩, by rfl, ⟨_, by rfl⟩, by decide⟩ hps.good (by omega) hz (by decide)) ?_
        generalize (wrP p M).2 = p2 at hst hz2 hw hb2 ⊢

        rw [hse]
        simp -implicitDefEqProofs only [go_sem]
        refine at_call trGo (goS (by rw [ByteArray.size_append]; omega)) ?_
        unfold gV
        simp -implicitDefEqProofs only [go_sem, s0]
        refine at_call tDMade (madeNS (r := 7) (by rfl)) ?_
        have s1 : decide ((p2.made.size : Int) > X.size) = false := decide_eq_false (by have := hb2.m; omega)
        simp -implicitDefEqProofs only [go_sem, s1, w9]
        refine kLoop_mk (j + 1, T ++ M, p2) ⟨hst, hb2, by show j + 1 ≤ m3; omega, by show (T ++ M).size ≤ 72 + 50 * (j + 1); rw [ByteArray.size_append]; omega⟩ (by show m3 - (j + 1) < m3 - j; omega) ?_
        rw [bdF_N (by exact hz2)]
        unfold bdT
        refine sub_mk [(4, 7), (5, 8)] rfl rfl rfl ?_
        simp only [tmSub, hpSub, objSub, eqTm, eqHp, rn, lk, SV.ren, SV.renC, SV.renB, SV.renA, ren_ints, ren_strs, ren_pl, ren_svs, SV.v.injEq, Value.int.injEq, Body.ints.injEq, SV.ptr.injEq, SV.sl.injEq, Value.string.injEq, Value.bool.injEq, List.map_cons, List.map_nil, forall_const, Nat.reduceLT, Nat.lt_add_one, imp_self, true_and, and_true, and_self, ob_some, get_mk, lk_cons, ↓reduceIte, Nat.reduceEqDiff, ne_eq, not_true_eq_false, not_false_eq_true, Nat.one_ne_zero, Nat.zero_ne_one, Nat.succ_ne_self, Nat.reduceAdd, Bool.false_eq_true, false_implies, implies_true, reduceCtorEq, patN]
        repeat' (first | rfl | apply And.intro)
      · have b3 : decide (((c % 3 : Nat) : Int) = 0) = false := decide_eq_false (by omega)
        obtain ⟨M, hM⟩ : ∃ M, M0 = M := ⟨_, rfl⟩
        rw [hM] at hcv ⊢
        simp -implicitDefEqProofs only [go_sem, b3]
        refine ⟨by omega, ?_⟩
        simp -implicitDefEqProofs only [go_sem]
        obtain ⟨hst, hse⟩ := ps_step (c := M) hps (by omega)
        have hw := wr_good (s := M) hps.good (by omega)
        have hb2 := bd_wr (c := M) hb
        have w9 : IntKind.i64.wrap ((j : Int) + 1) = ((j + 1 : Nat) : Int) := by rw [wrap_i64 (by omega) (by omega)]; omega

        have hz2 : ¬(wrP p M).2.made.size = 0 := by have := hw.2.1; omega
        refine at_call tDWrite (wNN (i := 2) (g := 3) (r := 4) (k := 5) ⟨by rfl, ⟨_, by rfl⟩, by rfl, ⟨_, by rfl⟩, by decide⟩ hps.good (by omega) hz (by decide)) ?_
        generalize (wrP p M).2 = p2 at hst hz2 hw hb2 ⊢

        rw [hse]
        simp -implicitDefEqProofs only [go_sem]
        refine at_call trGo (goS (by rw [ByteArray.size_append]; omega)) ?_
        unfold gV
        simp -implicitDefEqProofs only [go_sem, s0]
        refine at_call tDMade (madeNS (r := 6) (by rfl)) ?_
        have s1 : decide ((p2.made.size : Int) > X.size) = false := decide_eq_false (by have := hb2.m; omega)
        simp -implicitDefEqProofs only [go_sem, s1, w9]
        refine kLoop_mk (j + 1, T ++ M, p2) ⟨hst, hb2, by show j + 1 ≤ m3; omega, by show (T ++ M).size ≤ 72 + 50 * (j + 1); rw [ByteArray.size_append]; omega⟩ (by show m3 - (j + 1) < m3 - j; omega) ?_
        rw [bdF_N (by exact hz2)]
        unfold bdT
        refine sub_mk [(4, 6), (5, 7)] rfl rfl rfl ?_
        simp only [tmSub, hpSub, objSub, eqTm, eqHp, rn, lk, SV.ren, SV.renC, SV.renB, SV.renA, ren_ints, ren_strs, ren_pl, ren_svs, SV.v.injEq, Value.int.injEq, Body.ints.injEq, SV.ptr.injEq, SV.sl.injEq, Value.string.injEq, Value.bool.injEq, List.map_cons, List.map_nil, forall_const, Nat.reduceLT, Nat.lt_add_one, imp_self, true_and, and_true, and_self, ob_some, get_mk, lk_cons, ↓reduceIte, Nat.reduceEqDiff, ne_eq, not_true_eq_false, not_false_eq_true, Nat.one_ne_zero, Nat.zero_ne_one, Nat.succ_ne_self, Nat.reduceAdd, Bool.false_eq_true, false_implies, implies_true, reduceCtorEq, patN]
        repeat' (first | rfl | apply And.intro)
    have b0 : decide ((j : Int) < m3) = false := decide_eq_false (by omega)
    simp -implicitDefEqProofs only [go_sem, b0]
    have hco := cl_ok hps.good.ok
    have hcl := ps_close hps
    have hcz := bd_close hb
    have s1 : seq (clP p).1.1 (clP p).1.1 = true := seq_self _
    have s2 : decide ((clP p).1.2 = (clP p).1.2) = true := decide_eq_true rfl
    have s3 : decide (((clP p).1.1.size : Int) ≤ X.size) = true := decide_eq_true (by omega)
    by_cases e0 : (clP p).2.e = 0
    · refine at_call tDClose (cNF (i := 2) (g := 3) (r := 4) (k := 5) ⟨by rfl, ⟨_, by rfl⟩, by rfl, ⟨_, by rfl⟩, by decide⟩ hps.good.ok hz e0) ?_
      unfold clV
      simp -implicitDefEqProofs only [go_sem]
      refine at_call trDApply (rapplyS (by omega)) ?_
      rw [show apV O T = clV (goQ O T) from rfl]
      unfold clV
      rw [← hcl]
      simp -implicitDefEqProofs only [go_sem, s1, s2, s3]
      refine sub_mk [] rfl rfl rfl ?_
      simp only [tmSub, hpSub, objSub, eqTm, eqHp, rn, lk, SV.ren, SV.renC, SV.renB, SV.renA, ren_ints, ren_strs, ren_pl, ren_svs, SV.v.injEq, Value.int.injEq, Body.ints.injEq, SV.ptr.injEq, SV.sl.injEq, Value.string.injEq, Value.bool.injEq, List.map_cons, List.map_nil, forall_const, Nat.reduceLT, Nat.lt_add_one, imp_self, true_and, and_true, and_self, ob_some, get_mk, lk_cons, ↓reduceIte, Nat.reduceEqDiff, ne_eq, not_true_eq_false, not_false_eq_true, Nat.one_ne_zero, Nat.zero_ne_one, Nat.succ_ne_self, Nat.reduceAdd, Bool.false_eq_true, false_implies, implies_true, reduceCtorEq]
      try trivial
    · refine at_call tDClose (cND (i := 2) (g := 3) (r := 4) (k := 5) ⟨by rfl, ⟨_, by rfl⟩, by rfl, ⟨_, by rfl⟩, by decide⟩ hps.good.ok hz e0) ?_
      unfold clV
      simp -implicitDefEqProofs only [go_sem]
      refine at_call trDApply (rapplyS (by omega)) ?_
      rw [show apV O T = clV (goQ O T) from rfl]
      unfold clV
      rw [← hcl]
      simp -implicitDefEqProofs only [go_sem, s1, s2, s3]
      refine sub_mk [] rfl rfl rfl ?_
      simp only [tmSub, hpSub, objSub, eqTm, eqHp, rn, lk, SV.ren, SV.renC, SV.renB, SV.renA, ren_ints, ren_strs, ren_pl, ren_svs, SV.v.injEq, Value.int.injEq, Body.ints.injEq, SV.ptr.injEq, SV.sl.injEq, Value.string.injEq, Value.bool.injEq, List.map_cons, List.map_nil, forall_const, Nat.reduceLT, Nat.lt_add_one, imp_self, true_and, and_true, and_self, ob_some, get_mk, lk_cons, ↓reduceIte, Nat.reduceEqDiff, ne_eq, not_true_eq_false, not_false_eq_true, Nat.one_ne_zero, Nat.zero_ne_one, Nat.succ_ne_self, Nat.reduceAdd, Bool.false_eq_true, false_implies, implies_true, reduceCtorEq]
      try trivial
end
end Go.Sx