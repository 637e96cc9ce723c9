/- Cells: commits that the power cuts off. -/
import Derived.Test.YtaggkccjgnkloaaCelD
import Derived.Test.YtaggkccjgnkloaaRows

set_option linter.unusedVariables false
set_option linter.unusedSimpArgs false
set_option maxRecDepth 100000
namespace Go.Sx
open Go.Proofs
variable {H : Hp} {n : Nat} {x : Nat → Option SO} {d d' : Fd} {i a b c : Nat} {u1 u2 u3 : Bool} {C C' : Ce}

def kK : ByteArray := ⟨#[107]⟩
/-- What has been committed. -/
def Had (N : Nat) (es : List (Value × Value)) : Prop := (N = 0 ∧ es = []) ∨ (0 < N ∧ ∃ t : ByteArray, t.size ≤ 400 ∧ es = kv kK t)
theorem Had.es {N : Nat} {es : List (Value × Value)} (h : Had N es) : Es es := by
  rcases h with ⟨_, rfl⟩ | ⟨_, t, ht, rfl⟩
  · exact Es.nil
  · exact kv_es (by decide) (by decide) (by omega)
theorem Had.put {N : Nat} {es : List (Value × Value)} (h : Had N es) {s : ByteArray} (hs : s.size ≤ 400) : putE es kK s = 0 ∧ putEs es kK s = kv kK s := by
  have e : putE es kK s = 0 := by
    refine putE_ok (by decide) (by decide) (by omega) ?_
    rcases h with ⟨_, rfl⟩ | ⟨_, t, ht, rfl⟩
    · decide
    · show 1 < 64; decide
  refine ⟨e, ?_⟩
  rw [putEs_ok e]
  rcases h with ⟨_, rfl⟩ | ⟨_, t, ht, rfl⟩
  · rfl
  · exact kv_up
theorem Had.srt {N : Nat} {es : List (Value × Value)} (h : Had N es) : srtE es = es := by
  rcases h with ⟨_, rfl⟩ | ⟨_, t, ht, rfl⟩
  · exact srtE_nil
  · exact kv_srt
/-- A device between two rounds. -/
structure On (d : Fd) (t : Nat) : Prop where
  pl : Pl d 20 t
  off : d.off = false
  pend : d.pend = []
  safe : d.safe = d.seen
theorem On.fall {t : Nat} (h : On d t) {k : Int} (hk : k ≤ 9223372036854775807) : On { d with fa := max k 0 } (t + 1) := ⟨h.pl.fall hk, h.off, h.pend, h.safe⟩
theorem On.good {t : Nat} (h : On d t) : GoodP false 20 d.st d.seen [] d := ⟨h.off, h.safe, h.pend, h.pl.sn, h.pl.len, rfl, fun h => by cases h⟩
theorem On.cr {t : Nat} (h : Pl d 20 t) {ks : List Int} : On (crD d ks) (t + 1) := ⟨h.cr, rfl, rfl, rfl⟩
theorem On.of {t : Nat} {st : Int} {S : List (List Int)} (hP : Pl d 20 t) (g : GoodP false 20 st S [] d) : On d t := ⟨hP, g.off, g.pend, by rw [g.safe, g.seen']⟩
/-- One commit of a round. -/
theorem roundC {N L t : Nat} {es : List (Value × Value)} {s : ByteArray} {ks : List Int} (hN : N < 255) (hH : Had N es) (hs : s.size ≤ 400) (hR : Reg d.seen 0 10 N L es) (hO : On d t) (ht : t + 1000 < 1000000) :
    ∃ e C' d2, coR ⟨0, 10, N, L, false, kv kK s, es⟩ d = (e, C', d2) ∧ Pl d2 20 (t + 133) ∧
      ((e = 0 ∧ C' = ⟨0, 10, N + 1, 1 - L, false, kv kK s, kv kK s⟩ ∧ On d2 (t + 133) ∧ Reg d2.seen 0 10 (N + 1) (1 - L) (kv kK s)) ∨
       (e = 7 ∧ C' = ⟨0, 10, N, L, true, kv kK s, es⟩ ∧ (Reg (crD d2 ks).seen 0 10 (N + 1) (1 - L) (kv kK s) ∨ Reg (crD d2 ks).seen 0 10 N L es))) := by
  have hz : (encB (kv kK s)).size ≤ 64 * (10 - 1) := by rw [kv_size]; have : kK.size = 1 := rfl; omega
  have hE : Es (kv kK s) := kv_es (by decide) (by decide) (by omega)
  have hlen : d.seen.length = 20 := hO.pl.len
  have hL : L ≤ 1 := hR.1
  have hP := coR_pl (C := ⟨0, 10, N, L, false, kv kK s, es⟩) hO.pl ht (by show 10 ≤ 129; decide)
  have hI := coR_inv (C := ⟨0, 10, N, L, false, kv kK s, es⟩) (by show 2 ≤ 10; decide) hz hO.good (by show 0 + 2 * 10 ≤ 20; decide) hL
  have hto : ceTo ⟨0, 10, N, L, false, kv kK s, es⟩ = 0 + (1 - L) * 10 := rfl
  rw [hto] at hI
  rcases hI with ⟨h0, g⟩ | ⟨_, h7, hA⟩
  · have hc : coR ⟨0, 10, N, L, false, kv kK s, es⟩ d = (0, ⟨0, 10, N + 1, 1 - L, false, kv kK s, kv kK s⟩, (coQ ⟨0, 10, N, L, false, kv kK s, es⟩ d).2) := by
      unfold coR
      rw [if_neg (by show ¬ (false = true); decide), if_neg (by show ¬ 64 * (10 - 1) < (encB (kv kK s)).size; omega), if_neg (by rw [h0]; decide)]
    rw [hc] at hP
    refine ⟨_, _, _, hc, hP, .inl ⟨rfl, rfl, On.of hP g, ?_⟩⟩
    rw [g.seen']
    exact hR.done (by rw [hlen]; decide) (by decide) hz hN hE
  · have hc : coR ⟨0, 10, N, L, false, kv kK s, es⟩ d = (7, ⟨0, 10, N, L, true, kv kK s, es⟩, (coQ ⟨0, 10, N, L, false, kv kK s, es⟩ d).2) := by
      unfold coR
      rw [if_neg (by show ¬ (false = true); decide), if_neg (by show ¬ 64 * (10 - 1) < (encB (kv kK s)).size; omega), if_pos (by rw [h7]; decide), h7]
    rw [hc] at hP
    refine ⟨_, _, _, hc, hP, .inr ⟨rfl, rfl, ?_⟩⟩
    exact (hR.torn (ks := ks) (by rw [hlen]; decide) (by decide) hz hN hE hA).1
end Go.Sx

/- Cells: CellCrashes. -/
set_option linter.unusedVariables false
set_option linter.unusedSimpArgs false
set_option maxRecDepth 100000
namespace Go.Sx
attribute [local go_sem ↓] bind_mk intsB_mk strsB_mk svB_mk fnVC ob_some vc_skip vc_exit vc_ret vc_seq vc_block kSeq_normal kSeq_exit kSeq_ret kBlock_normal kBlock_exit kBlock_ret vc_reg vc_regD vc_cond condK_true condK_false vc_loop kLoop_exit kLoop_ret kRoll_normal kRoll_exit kRoll_ret vcOps_nil vcOps_cons gd_bool gd_undef put_some put_none vcT_fin vcT_pure vcT_act vcT_acts vcT_stop stab_none stab_some stabM_nil stabM_cons stabO_ld stabO_ldn stabO_slP stabO_b2s fldOf_ai fldOf_agg fldOf_ait fldOf_aggt intsOf_nil intsOf_cons strsOf_nil strsOf_cons c_omap ob_if lk_nil lk_cons ev_t ev_k z_mov z_pick z_bin z_binB z_binP z_un z_r2s z_conv z_s2b z_b2s z_mkM z_luM z_upM z_lenM lenMk_mp lenMk_nil plsOf_v z_delM asM_so plV_v plV_agg mpOf_mp mpOf_nil mpUp_mp asM_mp luV_ok luV_v z_allocT aggOf_mk z_boxT z_alloc z_bld z_bldI z_rowI z_rowS z_ld z_ldn z_st z_stn asN_ptr asN_fn z_nilck z_fld z_fadr z_idxA z_idxP z_idxS z_idxV z_slS z_slL z_slP z_mk z_lenS z_lenL z_app appC_ints appC_pl appC_sv appC_strs isS_strs loose_ints loose_pl loose_sv z_slM z_callv callvK_fn callvK_f callvK_yl vc_rangeF rfEnd_eq rfGo_none rfGo_ret rfGo_exit yGo_mk yEnd_n yEnd_r yEnd_e yRdy_mk yMid_n putPs_nil putPs_cons leaf_v leaf_ptr leaf_sl leaf_yl leaf_mp z_appS z_appST z_appZ z_cpyS z_mkfn reps_int reps_str z_rowV z_slnil nilK_zero z_cpy z_call asT_tup z_extT z_box boxOf_ai boxOf_agg boxOf_int boxOf_str boxOf_bool boxOf_ptr boxOf_sl sbin_int sbin_str sbinB_mk sbinP_nn sbinP_pn sbinP_np i_add i_sub i_mul i_quo i_rem i_and i_or i_xor i_andNot i_shl i_shr i_eql i_neq i_lss i_leq i_gtr i_geq st_add st_eql st_neq st_lss st_leq st_gtr st_geq bo_eql bo_neq pt_eql pt_neq un_neg un_xor un_not asI_mk asB_mk asS_mk asP_mk asSl_mk asBy_mk bnd_none bnd_some get_mk hput_mk hdel_mk kill_eq wrOf_eq rowOf_eq rsvs_0 rsvs_1 rsvs_2 rsvs_3 rsv_t rsv_c1 rsv_cn nt_v nt_ptr nt_sl nt_agg nt_ai get_ints get_strs get_pl get_sv getN_ints getN_sv set_ints set_strs set_sv setN_ints setN_sv part_ints part_strs part_sv cat_ints cat_strs cat_sv over_ints over_strs over_sv ones_ints ones_strs evs_nil evs_cons condK_eqt condK_eqf det_callP V_ns V_nn V_gs V_gn obC_mk fresh_ev freshT_ev freshR_ev setN_plagg setN_intsv setN_svai setN_svagg over_intsv set_pl setN_pl setN_plai getN_pl getN_strs part_pl cat_pl over_pl over_plints z_mm
attribute [local go_sem] initTm ne_eq not_true_eq_false not_false_eq_true true_and and_true List.length_cons List.length_nil Int.toNat_natCast Nat.add_zero Nat.zero_add Nat.mul_one List.getElem?_cons_zero List.drop_zero List.take_length List.take_succ_cons List.take_zero List.take_nil List.drop_succ_cons Option.map_some Nat.le_refl implies_true List.getElem?_cons_succ decide_true decide_false Bool.not_true Bool.not_false beq_self_eq_true Nat.succ_ne_self Nat.one_ne_zero Nat.zero_ne_one vk_mk hk_mk nk_mk tok_eq plsOf_map intsOf_map bodyOf_pl bodyOf_ints bodyOf_strs bodyOf_sv part_aggv part_agg part_ai part_int part_str part_bool part_sl part_ptr part_nil numsOf_map u_int u_str u_bool u_pnil u_sl u_ptr u_oci u_ocs evq_nil evq_cons fillS_nil fillS_cons u_ocb ones_pl cells_sv cells_ints cells_strs cells_pl smms_nil smms_cons smm_min smm_max plsOf_nil List.nil_append List.all_cons List.all_nil Bool.and_self Bool.true_and Bool.and_true zws_len zw_len zi_len List.set_cons_zero List.set_cons_succ List.flatMap_cons List.flatMap_nil List.append_nil
attribute [local go_sem_proc] Nat.reduceEqDiff Nat.reduceAdd Nat.reduceMul Nat.reduceLT Nat.reduceLeDiff Nat.reduceSub Int.reduceToNat Int.reduceLE Int.reduceLT reduceCtorEq Int.reduceEq Int.reduceGT Int.reduceGE Int.reduceNeg
attribute [local go_sem_proc ↓] reduceIte
section
open Go.Proofs
variable {H : Hp} {n : Nat} {x : Nat → Option SO} {d d' : Fd} {i a b c : Nat} {u1 u2 u3 : Bool} {C C' : Ce}
structure Rd where
  j : Nat
  N : Nat
  L : Nat
  es : List (Value × Value)
  d : Fd
structure RdOK (M : Nat) (r : Rd) : Prop where
  j : r.j ≤ M
  N : r.N ≤ r.j
  had : Had r.N r.es
  reg : Reg r.d.seen 0 10 r.N r.L r.es
  on : On r.d (200 * r.j)
def rdC (r : Rd) : Ce := ⟨0, 10, r.N, r.L, false, r.es, r.es⟩
def crI (ss : List ByteArray) (zs ks : List Int) (m2 m3 M : Nat) (x : Nat → Option SO) (r : Rd) : St :=
  ⟨[(1, .sl 2 0 m2 1), (5, .ptr 4 0), (7, .ptr 5 0), (9, .ptr 9 0), (11, .v (.string (tOf r.es kK))), (32, .sl 1 0 M 1), (33, .v (.int .i64 M)), (34, .v (.int .i64 r.j))],
   ⟨[(1, some ⟨false, .strs ss⟩), (2, some ⟨false, .ints .u8 zs⟩), (3, some ⟨false, .ints .i64 ks⟩), (4, some ⟨true, .sv [.sl 3 0 m3 1]⟩), (5, some ⟨true, devB r.d 6 7 8⟩), (6, some ⟨true, secB r.d.seen⟩), (7, some ⟨true, secB r.d.safe⟩), (8, some ⟨true, .pl (prow r.d.pend)⟩),
     (9, some ⟨true, cellB (rdC r) 5 10 11⟩), (10, some ⟨true, .mp (.map r.es)⟩), (11, some ⟨true, .mp (.map r.es)⟩)], x⟩, 12⟩
theorem offS' {b0 : Bool} (hg : H.get i = some ⟨true, devB d a b c⟩) (hs : d.off = b0) : SpecAt Try.prog nFOff [.ptr i 0] H n (.v (.bool b0)) H n := by subst hs; exact offS hg
set_option maxHeartbeats 4000000 in
theorem wCrashes {ss : List ByteArray} {zs ks : List Int} {m1 m2 m3 : Nat} (h1 : m1 ≤ ss.length) (h2 : m2 ≤ zs.length) (h3 : m3 ≤ ks.length) (hz : ∀ z ∈ zs, 0 ≤ z ∧ z ≤ 255) :
    fnVC CT mCellCrashes [.sl 1 0 m1 1, .sl 2 0 m2 1, .agg [.sl 3 0 m3 1]] ⟨[(3, some ⟨false, .ints .i64 ks⟩), (2, some ⟨false, .ints .u8 zs⟩), (1, some ⟨false, .strs ss⟩)], x⟩ 4 fun v H' n' => Sub 4 ⟨[(0, .v (.bool true))], ⟨[], x⟩, 4⟩ ⟨[(0, v)], H', n'⟩ := by
  unfold mCellCrashes
  simp -implicitDefEqProofs only [↓fnVC, initTm]
  simp -implicitDefEqProofs only [go_sem]
  refine at_call tcommits commitsS ?_
  simp -implicitDefEqProofs only [go_sem]
  refine at_call tFNew (nwD (k := 20) (by decide) (by decide) (by decide)) ?_
  unfold devL
  simp -implicitDefEqProofs only [go_sem]
  have hO : On (newD 20) 0 := ⟨Pl.new (by decide), rfl, rfl, rfl⟩
  have hR : Reg (newD 20).seen 0 10 0 1 [] := Reg.new (by decide) (by decide)
  generalize newD 20 = d0 at hO hR ⊢
  refine at_call tCOpen (openR (B := 0) (h := 10) (i := 5) (a := 6) (b := 7) (c := 8) (d := d0) ⟨by rfl, by rfl, by rfl, by rfl, by decide⟩ (by decide) (by decide) hO.pl.ok hO.off (by rw [hO.pl.len]; decide) hR srtE_nil (by decide)) ?_
  simp -implicitDefEqProofs only [go_sem]
  obtain ⟨M, hM⟩ : ∃ M, M = min m1 40 := ⟨_, rfl⟩
  have hMi : min (m1 : Int) 40 = (M : Int) := by omega
  simp -implicitDefEqProofs only [go_sem, hMi]
  refine ⟨by omega, ?_⟩
  refine loop_fam (RdOK M) (crI ss zs ks m2 m3 M x) (fun r => M - r.j) ⟨0, 0, 1, [], d0⟩ ⟨Nat.zero_le _, Nat.zero_le _, .inl ⟨rfl, rfl⟩, hR, hO⟩ ?_ ?_
  · unfold crI rdC
    refine sub_mk [] rfl rfl rfl ?_
    simp only [tmSub, hpSub, objSub, eqTm, eqHp, rn, lk, SV.ren, SV.renC, SV.renB, SV.renA, ren_ints, ren_strs, ren_pl, ren_svs, SV.v.injEq, Value.int.injEq, Body.ints.injEq, SV.ptr.injEq, SV.sl.injEq, Value.string.injEq, Value.bool.injEq, List.map_cons, List.map_nil, forall_const, Nat.reduceLT, Nat.lt_add_one, imp_self, true_and, and_true, and_self, ob_some, get_mk, lk_cons, ↓reduceIte, Nat.reduceEqDiff, ne_eq, not_true_eq_false, not_false_eq_true, Nat.one_ne_zero, Nat.zero_ne_one, Nat.succ_ne_self, Nat.reduceAdd, Bool.false_eq_true, false_implies, implies_true, reduceCtorEq]
    refine ⟨⟨rfl, by omega, by omega, rfl⟩, rfl, rfl, rfl, rfl, rfl⟩
  · intro r hr
    obtain ⟨j, N, L, es, d⟩ := r
    obtain ⟨hj, hN, hH, hR, hO⟩ := hr
    simp only at hj hN hH hR hO
    unfold crI rdC
    simp -implicitDefEqProofs only [go_sem]
    refine condK_bb (fun c => ?_) (fun c => ?_)
    · have c1 : j < M := by have := of_decide_eq_true c; omega
      simp -implicitDefEqProofs only [go_sem, c]
      refine ⟨⟨by omega, by omega⟩, by omega, ⟨by omega, by omega⟩, ?_⟩
      have hs : ((ss.getD j ByteArray.empty).extract 0 (min ((ss.getD j ByteArray.empty).size : Int) 400).toNat).size ≤ 400 := by rw [ByteArray.size_extract]; omega
      generalize (ss.getD j ByteArray.empty).extract 0 (min ((ss.getD j ByteArray.empty).size : Int) 400).toNat = s at hs ⊢
      refine condK_bb (fun cf => ?_) (fun cf => ?_)
      · have cf1 : j < m2 := by have := of_decide_eq_true cf; omega
        have hzj := hz _ (show zs.getD j 0 ∈ zs by rw [List.getD_eq_getElem?_getD, List.getElem?_eq_getElem (by omega)]; exact List.getElem_mem _)
        have hfk : IntKind.i64.wrap ((zs.getD j 0).tmod 20) ≤ 9223372036854775807 := by
          rw [Int.tmod_eq_emod_of_nonneg hzj.1, wrap_i64 (by omega) (by omega)]; omega
        simp -implicitDefEqProofs only [go_sem]
        refine ⟨⟨by omega, by omega⟩, by omega, ?_⟩
        generalize IntKind.i64.wrap ((zs.getD j 0).tmod 20) = fk at hfk ⊢
        refine at_call tFFall (faG (i := 5) (a := 6) (b := 7) (c := 8) (d := d) (k := fk) ⟨by rfl, by rfl, by rfl, by rfl, by decide⟩ rfl) ?_
        have hO1 := hO.fall hfk
        have hR1 : Reg ({ d with fa := max fk 0 } : Fd).seen 0 10 N L es := hR
        have hX : secB d.seen = secB ({ d with fa := max fk 0 } : Fd).seen ∧ secB d.safe = secB ({ d with fa := max fk 0 } : Fd).safe ∧ prow d.pend = prow ({ d with fa := max fk 0 } : Fd).pend := ⟨rfl, rfl, rfl⟩
        rw [hX.1, hX.2.1, hX.2.2]
        generalize ({ d with fa := max fk 0 } : Fd) = d1 at hO1 hR1 ⊢
        simp -implicitDefEqProofs only [go_sem]
        refine at_call tCPut (putS' (C := ⟨0, 10, N, L, false, es, es⟩) (d := d1) (i := 9) (D := 5) (a := 6) (b := 7) (c := 8) (M := 10) (W := 11) (es' := kv kK s) ⟨by rfl, by rfl, by rfl, by rfl, by rfl, by rfl, by rfl, by decide, by rfl, by rfl⟩ hH.es (hH.put hs).1 (hH.put hs).2) ?_
        simp -implicitDefEqProofs only [go_sem]
        have hEk : Es (kv kK s) := kv_es (by decide) (by decide) (by omega)
        obtain ⟨e, C', d2, hq, hP2, hcase⟩ := roundC (t := 200 * j + 1) (s := s) (ks := (ks.drop 0).take m3) (by omega) hH hs hR1 hO1 (by omega)
        have hCok : (⟨0, 10, N, L, false, kv kK s, es⟩ : Ce).ok := ⟨hEk, hH.es, by show 2 ≤ 10 ∧ 10 ≤ 129; decide, by show 0 ≤ 4096; decide, hR1.1, by show N < 1000000000000; omega⟩
        refine at_call tCCommit (commitS (C := ⟨0, 10, N, L, false, kv kK s, es⟩) (d := d1) (i := 9) (D := 5) (a := 6) (b := 7) (c := 8) (M := 10) (W := 11) (m := 20) (t := 200 * j + 1) ⟨by rfl, by rfl, by rfl, by rfl, by rfl, by rfl, by rfl, by decide, by rfl, by rfl⟩ hCok hO1.pl (by omega) (by decide) hq) ?_
        rcases hcase with ⟨rfl, rfl, hO2, hR2⟩ | ⟨rfl, rfl, hR2⟩
        · simp -implicitDefEqProofs only [go_sem]
          refine at_call tFOff (offS' (i := 5) (a := 12) (b := 13) (c := 14) (d := d2) (by rfl) hO2.off) ?_
          simp -implicitDefEqProofs only [go_sem]
          refine kLoop_mk ⟨j + 1, N + 1, 1 - L, kv kK s, d2⟩ ⟨by show j + 1 ≤ M; omega, by show N + 1 ≤ j + 1; omega, .inr ⟨by show 0 < N + 1; omega, s, hs, rfl⟩, hR2, ⟨hO2.pl.mono (by show 200 * j + 1 + 133 ≤ 200 * (j + 1); omega), hO2.off, hO2.pend, hO2.safe⟩⟩ (by show M - (j + 1) < M - j; omega) ?_
          have w2 : IntKind.i64.wrap ((j : Int) + 1) = ((j + 1 : Nat) : Int) := by rw [wrap_i64 (by omega) (by omega)]; omega
          refine sub_mk [(6, 12), (7, 13), (8, 14), (11, 15)] rfl rfl rfl ?_
          simp only [tmSub, hpSub, objSub, eqTm, eqHp, rn, lk, SV.ren, SV.renC, SV.renB, SV.renA, ren_ints, ren_strs, ren_pl, ren_svs, SV.v.injEq, Value.int.injEq, Body.ints.injEq, SV.ptr.injEq, SV.sl.injEq, Value.string.injEq, Value.bool.injEq, List.map_cons, List.map_nil, forall_const, Nat.reduceLT, Nat.lt_add_one, imp_self, true_and, and_true, and_self, ob_some, get_mk, lk_cons, ↓reduceIte, Nat.reduceEqDiff, ne_eq, not_true_eq_false, not_false_eq_true, Nat.one_ne_zero, Nat.zero_ne_one, Nat.succ_ne_self, Nat.reduceAdd, Bool.false_eq_true, false_implies, implies_true, reduceCtorEq]
          repeat' (first | rfl | exact kv_t.symm | exact w2 | apply And.intro)
        · simp -implicitDefEqProofs only [go_sem]
          have hO3 : On (crD d2 ((ks.drop 0).take m3)) (200 * j + 1 + 133 + 1) := On.cr hP2
          refine at_call tFCrash (crW (i := 5) (a := 12) (b := 13) (c := 14) (r := 3) (o := 0) (m := m3) (row := ks) (d := d2) ⟨by rfl, by rfl, by rfl, by rfl, by decide⟩ hP2.ok (by rw [hP2.len]; decide) (by omega) (by rfl) (by decide) (by decide) rfl) ?_
          generalize crD d2 ((ks.drop 0).take m3) = d3 at hO3 hR2 ⊢
          simp -implicitDefEqProofs only [go_sem]
          have w2 : IntKind.i64.wrap ((j : Int) + 1) = ((j + 1 : Nat) : Int) := by rw [wrap_i64 (by omega) (by omega)]; omega
          have hO4 : On d3 (200 * (j + 1)) := ⟨hO3.pl.mono (by omega), hO3.off, hO3.pend, hO3.safe⟩
          have f70 : decide ((7 : Int) = 0) = false := rfl
          rcases hR2 with hR2 | hR2
          · refine at_call tCOpen (openR (B := 0) (h := 10) (i := 5) (a := 16) (b := 13) (c := 17) (d := d3) ⟨by rfl, by rfl, by rfl, by rfl, by decide⟩ (by decide) (by decide) hO3.pl.ok hO3.off (by rw [hO3.pl.len]; decide) hR2 kv_srt (by decide)) ?_
            simp -implicitDefEqProofs only [go_sem]
            refine at_call tCGet (getS (C := ⟨0, 10, N + 1, 1 - L, false, kv kK s, kv kK s⟩) (d := d3) (i := 18) (D := 5) (a := 16) (b := 13) (c := 17) (M := 19) (W := 20) ⟨by rfl, by rfl, by rfl, by rfl, by rfl, by rfl, by rfl, by decide, by rfl, by rfl⟩ hEk) ?_
            rw [show getV (kv kK s) ⟨#[107]⟩ = .tup [.v (.string s), .v (.bool true)] by unfold getV; rw [show (⟨#[107]⟩ : ByteArray) = kK from rfl, kv_t, kv_lu]; rfl]
            simp -implicitDefEqProofs only [go_sem]
            have q1 : seq s s = true := seq_self _
            by_cases hh : s = tOf es kK
            · have q2 : seq s (tOf es kK) = true := by rw [← hh]; exact seq_self _
              simp -implicitDefEqProofs only [go_sem, q1, q2]
              refine kLoop_mk ⟨j + 1, N + 1, 1 - L, kv kK s, d3⟩ ⟨by show j + 1 ≤ M; omega, by show N + 1 ≤ j + 1; omega, .inr ⟨by show 0 < N + 1; omega, s, hs, rfl⟩, hR2, hO4⟩ (by show M - (j + 1) < M - j; omega) ?_
              refine sub_mk [(6, 16), (7, 13), (8, 17), (9, 18), (10, 19), (11, 20)] rfl rfl rfl ?_
              simp only [tmSub, hpSub, objSub, eqTm, eqHp, rn, lk, SV.ren, SV.renC, SV.renB, SV.renA, ren_ints, ren_strs, ren_pl, ren_svs, SV.v.injEq, Value.int.injEq, Body.ints.injEq, SV.ptr.injEq, SV.sl.injEq, Value.string.injEq, Value.bool.injEq, List.map_cons, List.map_nil, forall_const, Nat.reduceLT, Nat.lt_add_one, imp_self, true_and, and_true, and_self, ob_some, get_mk, lk_cons, ↓reduceIte, Nat.reduceEqDiff, ne_eq, not_true_eq_false, not_false_eq_true, Nat.one_ne_zero, Nat.zero_ne_one, Nat.succ_ne_self, Nat.reduceAdd, Bool.false_eq_true, false_implies, implies_true, reduceCtorEq]
              repeat' (first | rfl | exact kv_t.symm | exact w2 | apply And.intro)
            · have q2 : seq s (tOf es kK) = false := seq_ne hh
              simp -implicitDefEqProofs only [go_sem, q1, q2, f70]
              refine kLoop_mk ⟨j + 1, N + 1, 1 - L, kv kK s, d3⟩ ⟨by show j + 1 ≤ M; omega, by show N + 1 ≤ j + 1; omega, .inr ⟨by show 0 < N + 1; omega, s, hs, rfl⟩, hR2, hO4⟩ (by show M - (j + 1) < M - j; omega) ?_
              refine sub_mk [(6, 16), (7, 13), (8, 17), (9, 18), (10, 19), (11, 20)] rfl rfl rfl ?_
              simp only [tmSub, hpSub, objSub, eqTm, eqHp, rn, lk, SV.ren, SV.renC, SV.renB, SV.renA, ren_ints, ren_strs, ren_pl, ren_svs, SV.v.injEq, Value.int.injEq, Body.ints.injEq, SV.ptr.injEq, SV.sl.injEq, Value.string.injEq, Value.bool.injEq, List.map_cons, List.map_nil, forall_const, Nat.reduceLT, Nat.lt_add_one, imp_self, true_and, and_true, and_self, ob_some, get_mk, lk_cons, ↓reduceIte, Nat.reduceEqDiff, ne_eq, not_true_eq_false, not_false_eq_true, Nat.one_ne_zero, Nat.zero_ne_one, Nat.succ_ne_self, Nat.reduceAdd, Bool.false_eq_true, false_implies, implies_true, reduceCtorEq]
              repeat' (first | rfl | exact kv_t.symm | exact w2 | apply And.intro)
          · refine at_call tCOpen (openR (B := 0) (h := 10) (i := 5) (a := 16) (b := 13) (c := 17) (d := d3) ⟨by rfl, by rfl, by rfl, by rfl, by decide⟩ (by decide) (by decide) hO3.pl.ok hO3.off (by rw [hO3.pl.len]; decide) hR2 hH.srt (by decide)) ?_
            simp -implicitDefEqProofs only [go_sem]
            refine at_call tCGet (getS (C := ⟨0, 10, N, L, false, es, es⟩) (d := d3) (i := 18) (D := 5) (a := 16) (b := 13) (c := 17) (M := 19) (W := 20) ⟨by rfl, by rfl, by rfl, by rfl, by rfl, by rfl, by rfl, by decide, by rfl, by rfl⟩ hH.es) ?_
            unfold getV
            rw [show (⟨#[107]⟩ : ByteArray) = kK from rfl]
            have q1 : seq (tOf es kK) (tOf es kK) = true := seq_self _
            have q3 : (luS es kK).isSome = false → seq (tOf es kK) ⟨#[]⟩ = true := fun h => by
              rcases hH with ⟨_, rfl⟩ | ⟨_, t, ht, rfl⟩
              · exact seq_self _
              · rw [kv_lu] at h; cases h
            have hrest : RdOK M ⟨j + 1, N, L, es, d3⟩ := ⟨by show j + 1 ≤ M; omega, by show N ≤ j + 1; omega, hH, hR2, hO4⟩
            cases hb : (luS es kK).isSome with
            | true =>
              simp -implicitDefEqProofs only [go_sem, q1]
              refine kLoop_mk ⟨j + 1, N, L, es, d3⟩ hrest (by show M - (j + 1) < M - j; omega) ?_
              refine sub_mk [(6, 16), (7, 13), (8, 17), (9, 18), (10, 19), (11, 20)] rfl rfl rfl ?_
              simp only [tmSub, hpSub, objSub, eqTm, eqHp, rn, lk, SV.ren, SV.renC, SV.renB, SV.renA, ren_ints, ren_strs, ren_pl, ren_svs, SV.v.injEq, Value.int.injEq, Body.ints.injEq, SV.ptr.injEq, SV.sl.injEq, Value.string.injEq, Value.bool.injEq, List.map_cons, List.map_nil, forall_const, Nat.reduceLT, Nat.lt_add_one, imp_self, true_and, and_true, and_self, ob_some, get_mk, lk_cons, ↓reduceIte, Nat.reduceEqDiff, ne_eq, not_true_eq_false, not_false_eq_true, Nat.one_ne_zero, Nat.zero_ne_one, Nat.succ_ne_self, Nat.reduceAdd, Bool.false_eq_true, false_implies, implies_true, reduceCtorEq]
              repeat' (first | rfl | exact kv_t.symm | exact w2 | apply And.intro)
            | false =>
              have q4 := q3 hb
              simp -implicitDefEqProofs only [go_sem, q1, q4]
              refine kLoop_mk ⟨j + 1, N, L, es, d3⟩ hrest (by show M - (j + 1) < M - j; omega) ?_
              refine sub_mk [(6, 16), (7, 13), (8, 17), (9, 18), (10, 19), (11, 20)] rfl rfl rfl ?_
              simp only [tmSub, hpSub, objSub, eqTm, eqHp, rn, lk, SV.ren, SV.renC, SV.renB, SV.renA, ren_ints, ren_strs, ren_pl, ren_svs, SV.v.injEq, Value.int.injEq, Body.ints.injEq, SV.ptr.injEq, SV.sl.injEq, Value.string.injEq, Value.bool.injEq, List.map_cons, List.map_nil, forall_const, Nat.reduceLT, Nat.lt_add_one, imp_self, true_and, and_true, and_self, ob_some, get_mk, lk_cons, ↓reduceIte, Nat.reduceEqDiff, ne_eq, not_true_eq_false, not_false_eq_true, Nat.one_ne_zero, Nat.zero_ne_one, Nat.succ_ne_self, Nat.reduceAdd, Bool.false_eq_true, false_implies, implies_true, reduceCtorEq]
              repeat' (first | rfl | exact kv_t.symm | exact w2 | apply And.intro)
      · have hO1 : On d (200 * j + 1) := ⟨hO.pl.more, hO.off, hO.pend, hO.safe⟩
        have hR1 := hR
        generalize d = d1 at hO1 hR1 ⊢
        simp -implicitDefEqProofs only [go_sem]
        refine at_call tCPut (putS' (C := ⟨0, 10, N, L, false, es, es⟩) (d := d1) (i := 9) (D := 5) (a := 6) (b := 7) (c := 8) (M := 10) (W := 11) (es' := kv kK s) ⟨by rfl, by rfl, by rfl, by rfl, by rfl, by rfl, by rfl, by decide, by rfl, by rfl⟩ hH.es (hH.put hs).1 (hH.put hs).2) ?_
        simp -implicitDefEqProofs only [go_sem]
        have hEk : Es (kv kK s) := kv_es (by decide) (by decide) (by omega)
        obtain ⟨e, C', d2, hq, hP2, hcase⟩ := roundC (t := 200 * j + 1) (s := s) (ks := (ks.drop 0).take m3) (by omega) hH hs hR1 hO1 (by omega)
        have hCok : (⟨0, 10, N, L, false, kv kK s, es⟩ : Ce).ok := ⟨hEk, hH.es, by show 2 ≤ 10 ∧ 10 ≤ 129; decide, by show 0 ≤ 4096; decide, hR1.1, by show N < 1000000000000; omega⟩
        refine at_call tCCommit (commitS (C := ⟨0, 10, N, L, false, kv kK s, es⟩) (d := d1) (i := 9) (D := 5) (a := 6) (b := 7) (c := 8) (M := 10) (W := 11) (m := 20) (t := 200 * j + 1) ⟨by rfl, by rfl, by rfl, by rfl, by rfl, by rfl, by rfl, by decide, by rfl, by rfl⟩ hCok hO1.pl (by omega) (by decide) hq) ?_
        rcases hcase with ⟨rfl, rfl, hO2, hR2⟩ | ⟨rfl, rfl, hR2⟩
        · simp -implicitDefEqProofs only [go_sem]
          refine at_call tFOff (offS' (i := 5) (a := 12) (b := 13) (c := 14) (d := d2) (by rfl) hO2.off) ?_
          simp -implicitDefEqProofs only [go_sem]
          refine kLoop_mk ⟨j + 1, N + 1, 1 - L, kv kK s, d2⟩ ⟨by show j + 1 ≤ M; omega, by show N + 1 ≤ j + 1; omega, .inr ⟨by show 0 < N + 1; omega, s, hs, rfl⟩, hR2, ⟨hO2.pl.mono (by show 200 * j + 1 + 133 ≤ 200 * (j + 1); omega), hO2.off, hO2.pend, hO2.safe⟩⟩ (by show M - (j + 1) < M - j; omega) ?_
          have w2 : IntKind.i64.wrap ((j : Int) + 1) = ((j + 1 : Nat) : Int) := by rw [wrap_i64 (by omega) (by omega)]; omega
          refine sub_mk [(6, 12), (7, 13), (8, 14), (11, 15)] rfl rfl rfl ?_
          simp only [tmSub, hpSub, objSub, eqTm, eqHp, rn, lk, SV.ren, SV.renC, SV.renB, SV.renA, ren_ints, ren_strs, ren_pl, ren_svs, SV.v.injEq, Value.int.injEq, Body.ints.injEq, SV.ptr.injEq, SV.sl.injEq, Value.string.injEq, Value.bool.injEq, List.map_cons, List.map_nil, forall_const, Nat.reduceLT, Nat.lt_add_one, imp_self, true_and, and_true, and_self, ob_some, get_mk, lk_cons, ↓reduceIte, Nat.reduceEqDiff, ne_eq, not_true_eq_false, not_false_eq_true, Nat.one_ne_zero, Nat.zero_ne_one, Nat.succ_ne_self, Nat.reduceAdd, Bool.false_eq_true, false_implies, implies_true, reduceCtorEq]
          repeat' (first | rfl | exact kv_t.symm | exact w2 | apply And.intro)
        · simp -implicitDefEqProofs only [go_sem]
          have hO3 : On (crD d2 ((ks.drop 0).take m3)) (200 * j + 1 + 133 + 1) := On.cr hP2
          refine at_call tFCrash (crW (i := 5) (a := 12) (b := 13) (c := 14) (r := 3) (o := 0) (m := m3) (row := ks) (d := d2) ⟨by rfl, by rfl, by rfl, by rfl, by decide⟩ hP2.ok (by rw [hP2.len]; decide) (by omega) (by rfl) (by decide) (by decide) rfl) ?_
          generalize crD d2 ((ks.drop 0).take m3) = d3 at hO3 hR2 ⊢
          simp -implicitDefEqProofs only [go_sem]
          have w2 : IntKind.i64.wrap ((j : Int) + 1) = ((j + 1 : Nat) : Int) := by rw [wrap_i64 (by omega) (by omega)]; omega
          have hO4 : On d3 (200 * (j + 1)) := ⟨hO3.pl.mono (by omega), hO3.off, hO3.pend, hO3.safe⟩
          have f70 : decide ((7 : Int) = 0) = false := rfl
          rcases hR2 with hR2 | hR2
          · refine at_call tCOpen (openR (B := 0) (h := 10) (i := 5) (a := 16) (b := 13) (c := 17) (d := d3) ⟨by rfl, by rfl, by rfl, by rfl, by decide⟩ (by decide) (by decide) hO3.pl.ok hO3.off (by rw [hO3.pl.len]; decide) hR2 kv_srt (by decide)) ?_
            simp -implicitDefEqProofs only [go_sem]
            refine at_call tCGet (getS (C := ⟨0, 10, N + 1, 1 - L, false, kv kK s, kv kK s⟩) (d := d3) (i := 18) (D := 5) (a := 16) (b := 13) (c := 17) (M := 19) (W := 20) ⟨by rfl, by rfl, by rfl, by rfl, by rfl, by rfl, by rfl, by decide, by rfl, by rfl⟩ hEk) ?_
            rw [show getV (kv kK s) ⟨#[107]⟩ = .tup [.v (.string s), .v (.bool true)] by unfold getV; rw [show (⟨#[107]⟩ : ByteArray) = kK from rfl, kv_t, kv_lu]; rfl]
            simp -implicitDefEqProofs only [go_sem]
            have q1 : seq s s = true := seq_self _
            by_cases hh : s = tOf es kK
            · have q2 : seq s (tOf es kK) = true := by rw [← hh]; exact seq_self _
              simp -implicitDefEqProofs only [go_sem, q1, q2]
              refine kLoop_mk ⟨j + 1, N + 1, 1 - L, kv kK s, d3⟩ ⟨by show j + 1 ≤ M; omega, by show N + 1 ≤ j + 1; omega, .inr ⟨by show 0 < N + 1; omega, s, hs, rfl⟩, hR2, hO4⟩ (by show M - (j + 1) < M - j; omega) ?_
              refine sub_mk [(6, 16), (7, 13), (8, 17), (9, 18), (10, 19), (11, 20)] rfl rfl rfl ?_
              simp only [tmSub, hpSub, objSub, eqTm, eqHp, rn, lk, SV.ren, SV.renC, SV.renB, SV.renA, ren_ints, ren_strs, ren_pl, ren_svs, SV.v.injEq, Value.int.injEq, Body.ints.injEq, SV.ptr.injEq, SV.sl.injEq, Value.string.injEq, Value.bool.injEq, List.map_cons, List.map_nil, forall_const, Nat.reduceLT, Nat.lt_add_one, imp_self, true_and, and_true, and_self, ob_some, get_mk, lk_cons, ↓reduceIte, Nat.reduceEqDiff, ne_eq, not_true_eq_false, not_false_eq_true, Nat.one_ne_zero, Nat.zero_ne_one, Nat.succ_ne_self, Nat.reduceAdd, Bool.false_eq_true, false_implies, implies_true, reduceCtorEq]
              repeat' (first | rfl | exact kv_t.symm | exact w2 | apply And.intro)
            · have q2 : seq s (tOf es kK) = false := seq_ne hh
              simp -implicitDefEqProofs only [go_sem, q1, q2, f70]
              refine kLoop_mk ⟨j + 1, N + 1, 1 - L, kv kK s, d3⟩ ⟨by show j + 1 ≤ M; omega, by show N + 1 ≤ j + 1; omega, .inr ⟨by show 0 < N + 1; omega, s, hs, rfl⟩, hR2, hO4⟩ (by show M - (j + 1) < M - j; omega) ?_
              refine sub_mk [(6, 16), (7, 13), (8, 17), (9, 18), (10, 19), (11, 20)] rfl rfl rfl ?_
              simp only [tmSub, hpSub, objSub, eqTm, eqHp, rn, lk, SV.ren, SV.renC, SV.renB, SV.renA, ren_ints, ren_strs, ren_pl, ren_svs, SV.v.injEq, Value.int.injEq, Body.ints.injEq, SV.ptr.injEq, SV.sl.injEq, Value.string.injEq, Value.bool.injEq, List.map_cons, List.map_nil, forall_const, Nat.reduceLT, Nat.lt_add_one, imp_self, true_and, and_true, and_self, ob_some, get_mk, lk_cons, ↓reduceIte, Nat.reduceEqDiff, ne_eq, not_true_eq_false, not_false_eq_true, Nat.one_ne_zero, Nat.zero_ne_one, Nat.succ_ne_self, Nat.reduceAdd, Bool.false_eq_true, false_implies, implies_true, reduceCtorEq]
              repeat' (first | rfl | exact kv_t.symm | exact w2 | apply And.intro)
          · refine at_call tCOpen (openR (B := 0) (h := 10) (i := 5) (a := 16) (b := 13) (c := 17) (d := d3) ⟨by rfl, by rfl, by rfl, by rfl, by decide⟩ (by decide) (by decide) hO3.pl.ok hO3.off (by rw [hO3.pl.len]; decide) hR2 hH.srt (by decide)) ?_
            simp -implicitDefEqProofs only [go_sem]
            refine at_call tCGet (getS (C := ⟨0, 10, N, L, false, es, es⟩) (d := d3) (i := 18) (D := 5) (a := 16) (b := 13) (c := 17) (M := 19) (W := 20) ⟨by rfl, by rfl, by rfl, by rfl, by rfl, by rfl, by rfl, by decide, by rfl, by rfl⟩ hH.es) ?_
            unfold getV
            rw [show (⟨#[107]⟩ : ByteArray) = kK from rfl]
            have q1 : seq (tOf es kK) (tOf es kK) = true := seq_self _
            have q3 : (luS es kK).isSome = false → seq (tOf es kK) ⟨#[]⟩ = true := fun h => by
              rcases hH with ⟨_, rfl⟩ | ⟨_, t, ht, rfl⟩
              · exact seq_self _
              · rw [kv_lu] at h; cases h
            have hrest : RdOK M ⟨j + 1, N, L, es, d3⟩ := ⟨by show j + 1 ≤ M; omega, by show N ≤ j + 1; omega, hH, hR2, hO4⟩
            cases hb : (luS es kK).isSome with
            | true =>
              simp -implicitDefEqProofs only [go_sem, q1]
              refine kLoop_mk ⟨j + 1, N, L, es, d3⟩ hrest (by show M - (j + 1) < M - j; omega) ?_
              refine sub_mk [(6, 16), (7, 13), (8, 17), (9, 18), (10, 19), (11, 20)] rfl rfl rfl ?_
              simp only [tmSub, hpSub, objSub, eqTm, eqHp, rn, lk, SV.ren, SV.renC, SV.renB, SV.renA, ren_ints, ren_strs, ren_pl, ren_svs, SV.v.injEq, Value.int.injEq, Body.ints.injEq, SV.ptr.injEq, SV.sl.injEq, Value.string.injEq, Value.bool.injEq, List.map_cons, List.map_nil, forall_const, Nat.reduceLT, Nat.lt_add_one, imp_self, true_and, and_true, and_self, ob_some, get_mk, lk_cons, ↓reduceIte, Nat.reduceEqDiff, ne_eq, not_true_eq_false, not_false_eq_true, Nat.one_ne_zero, Nat.zero_ne_one, Nat.succ_ne_self, Nat.reduceAdd, Bool.false_eq_true, false_implies, implies_true, reduceCtorEq]
              repeat' (first | rfl | exact kv_t.symm | exact w2 | apply And.intro)
            | false =>
              have q4 := q3 hb
              simp -implicitDefEqProofs only [go_sem, q1, q4]
              refine kLoop_mk ⟨j + 1, N, L, es, d3⟩ hrest (by show M - (j + 1) < M - j; omega) ?_
              refine sub_mk [(6, 16), (7, 13), (8, 17), (9, 18), (10, 19), (11, 20)] rfl rfl rfl ?_
              simp only [tmSub, hpSub, objSub, eqTm, eqHp, rn, lk, SV.ren, SV.renC, SV.renB, SV.renA, ren_ints, ren_strs, ren_pl, ren_svs, SV.v.injEq, Value.int.injEq, Body.ints.injEq, SV.ptr.injEq, SV.sl.injEq, Value.string.injEq, Value.bool.injEq, List.map_cons, List.map_nil, forall_const, Nat.reduceLT, Nat.lt_add_one, imp_self, true_and, and_true, and_self, ob_some, get_mk, lk_cons, ↓reduceIte, Nat.reduceEqDiff, ne_eq, not_true_eq_false, not_false_eq_true, Nat.one_ne_zero, Nat.zero_ne_one, Nat.succ_ne_self, Nat.reduceAdd, Bool.false_eq_true, false_implies, implies_true, reduceCtorEq]
              repeat' (first | rfl | exact kv_t.symm | exact w2 | apply And.intro)
    · simp -implicitDefEqProofs only [go_sem, c]
      refine sub_mk [] rfl rfl rfl ?_
      simp only [tmSub, hpSub, objSub, eqTm, eqHp, rn, lk, SV.ren, SV.renC, SV.renB, SV.renA, ren_ints, ren_strs, ren_pl, ren_svs, SV.v.injEq, Value.int.injEq, Body.ints.injEq, SV.ptr.injEq, SV.sl.injEq, Value.string.injEq, Value.bool.injEq, List.map_cons, List.map_nil, forall_const, Nat.reduceLT, Nat.lt_add_one, imp_self, true_and, and_true, and_self, ob_some, get_mk, lk_cons, ↓reduceIte, Nat.reduceEqDiff, ne_eq, not_true_eq_false, not_false_eq_true, Nat.one_ne_zero, Nat.zero_ne_one, Nat.succ_ne_self, Nat.reduceAdd, Bool.false_eq_true, false_implies, implies_true, reduceCtorEq]
end
end Go.Sx
/- Cells: a fate that came in. -/
set_option linter.unusedVariables false
set_option linter.unusedSimpArgs false
set_option maxRecDepth 100000
namespace Go.Sx
open Go.Proofs Go.ChangeShapes Go.WideShapes Go.ChangeAt Go.RowKit
variable {H : Type} {enc : TypeId × Value → H} {W : World}
theorem fate_cells {fuel : Nat} {cs : List Value} {x : DataW H × List MemPlace} (h : DataW.trod enc Try.prog W 0 (fun _ => true) true fuel 39 cs = some x) :
    ∃ (kv : Value) (n : Nat) (y : DataW H × List MemPlace), cs = [kv] ∧ DataW.trod enc Try.prog W 0 (fun _ => true) true n 37 [kv] = some y := by
  obtain ⟨xs', n', rfl, rfl, hl', hxl', hf'⟩ := DataW.trod_struct Try.underlying39 h
  have h4 := hf' 0 { name := "Keep", type := 37, offset := 0, embedded := false, tag := "", pkgPath := "", byteOffset := 0 } rfl
  have c37 : Try.prog.cellsOf 37 = 1 := by kernel_rfl
  have c39 : Try.prog.cellsOf 39 = 1 := by kernel_rfl
  rw [c39] at hl'
  match cs, hl' with
  | [a], _ =>
    simp only [c37, List.drop_zero, List.take_succ_cons, List.take_zero] at h4
    obtain ⟨y4, g4⟩ : ∃ y, xs'[0]? = some y := ⟨_, List.getElem?_eq_getElem (by rw [hxl']; decide)⟩
    rw [g4] at h4
    exact ⟨a, _, _, rfl, h4⟩
/-- A slice of numbers that lies in a cell. -/
structure KV (W : World) (l : Loc) (zs : List Int) (m : Nat) (kv : Value) : Prop where
  row : ∀ ρ, ObjOK ρ W l ⟨false, .ints .i64 zs⟩
  live : ∀ k, l.blk = some k → k < W.heap.size
  sl : slrel l 0 m 1 kv
  len : m ≤ zs.length
  sh : l.sh = none
theorem in_kv {fuel : Nat} {kv : Value} {y : DataW H × List MemPlace} (h0 : DataW.trod enc Try.prog W 0 (fun _ => true) true fuel 37 [kv] = some y) : ∃ l zs m, KV W l zs m kv := by
  rcases open_ints Try.underlying37 Try.underlying3 (by kernel_rfl) h0 with ⟨hcs, hx⟩ | ⟨a, len, cap, zs, hcs, _, hl, hm, hz, hx, hcell, hws⟩
  · cases hcs
    exact ⟨⟨none, 0, 0, false, none⟩, [], 0, fun ρ => ⟨rfl, exOK_ro rfl⟩, fun k hk => (by cases hk), ⟨rfl, .inl rfl⟩, Nat.le_refl _, rfl⟩
  · cases hcs
    replace hz : zs.length = cap := by simpa using hz
    by_cases h00 : cap = 0
    · subst h00
      have : len = 0 := by omega
      subst this
      exact ⟨⟨none, 0, 1, false, none⟩, [], 0, fun ρ => ⟨rfl, exOK_ro rfl⟩, fun k hk => (by cases hk), ⟨rfl, .inr ⟨by decide, a, rfl⟩⟩, Nat.le_refl _, rfl⟩
    · have hc0 := hcell 0 (by omega)
      have hs : a.spot = none := by
        have := World.cell?_spot hc0
        simpa [Addr.add] using this
      obtain ⟨c, T, fr, hb⟩ : ∃ c T fr, W.heap[a.block]? = some (.cells c T fr) := by
        have e : a.add 0 = a := by simp [Addr.add]
        rw [e] at hc0
        unfold World.cell? at hc0
        split at hc0
        · rename_i c T fr hb; exact ⟨c, T, fr, hb⟩
        · cases hc0
      have hsz : a.off + zs.length ≤ c.size := by
        have := hcell (zs.length - 1) (by omega)
        rw [cell_at hs hb] at this
        have := (Array.getElem?_eq_some_iff.1 this).1
        omega
      refine ⟨⟨some a.block, a.off, cap, false, none⟩, zs, len, fun ρ => ⟨?_, exOK_ro rfl⟩, fun k hk => (by cases hk; exact (Array.getElem?_eq_some_iff.1 hb).1), ?_, by omega, rfl⟩
      · refine ⟨c, T, fr, hb, by simp only; omega, by simp [Body.cells, hz], ?_, fun h => by cases h⟩
        intro j x hj
        simp only [Body.cells, List.getElem?_map] at hj
        have hj' : j < zs.length := by
          cases hq : zs[j]? with
          | none => rw [hq] at hj; cases hj
          | some q => exact (List.getElem?_eq_some_iff.1 hq).1
        refine ⟨.int .i64 (zs.getD j 0), by rw [← cell_at hs hb]; exact hcell j hj', ?_⟩
        rw [List.getElem?_eq_getElem hj'] at hj
        simp only [Option.map_some, Option.some.injEq] at hj
        subst hj
        simp [crel, arel, List.getD_eq_getElem?_getD, List.getElem?_eq_getElem hj']
      · refine ⟨cap, a.off, hl, ⟨by simp, fun e => by cases e⟩, fun h => by simp, ?_⟩
        cases a; cases hs; rfl
theorem in_fate {b0 : Nat} {v : Value} {d : DataW H} {ps : List MemPlace} {ρ : Nat → Loc} {n : Nat} {Hs : Hp} (hval : Value.okWide Try.prog W .any b0 39 v) (h : DataW.Trod enc Try.prog W 0 (fun _ => true) true 39 v d ps)
    (hH : HRel (· < W.heap.size) W ρ n Hs W) (hn : n < 1000) (hro : ∀ i s, Hs.get i = some s → s.wr = false) :
    ∃ (kv : Value) (l : Loc) (zs : List Int) (m : Nat), v = .agg #[kv] ∧ HRel (· < W.heap.size) W (upd ρ n l) (n + 1) (Hs.put n ⟨false, .ints .i64 zs⟩) W ∧ slrel l 0 m 1 kv ∧ m ≤ zs.length := by
  obtain ⟨cs, rfl, hsz⟩ := okWide_struct Try.underlying39 hval
  obtain ⟨fuel, h⟩ := h
  obtain ⟨kv, n', y, e, hk⟩ := fate_cells (show DataW.trod enc Try.prog W 0 (fun _ => true) true fuel 39 cs.toList = some (d, ps) from h)
  obtain ⟨l, zs, m, hkv⟩ := in_kv hk
  exact ⟨kv, l, zs, m, by cases cs; simp only at e; rw [e], hrel_in hH hn _ l rfl (hkv.row ρ) hkv.live hro hkv.sh, hkv.sl, hkv.len⟩
end Go.Sx
