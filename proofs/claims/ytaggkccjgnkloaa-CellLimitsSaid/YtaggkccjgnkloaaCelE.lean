/- Cells: as many names as there is room for. -/
import Derived.Test.YtaggkccjgnkloaaCelD

set_option linter.unusedVariables false
set_option linter.unusedSimpArgs false
set_option maxRecDepth 100000
namespace Go.Sx
open Go.Proofs
def kC : ByteArray := ⟨#[107]⟩
def nmJ (j : Nat) : ByteArray := tx [1, (j : Int)]
theorem nmJ_size {j : Nat} : (nmJ j).size = 2 := by unfold nmJ; rw [tx_sz]; rfl
theorem nmJ_inj {i j : Nat} (hi : i < 256) (hj : j < 256) (h : nmJ i = nmJ j) : i = j := by
  have hb : ∀ k : Nat, k < 256 → bts (nmJ k) = [1, (k : Int)] := fun k hk => btx (by
    intro y hy
    simp only [List.mem_cons, List.not_mem_nil, or_false] at hy
    omega)
  have := congrArg bts h
  rw [hb i hi, hb j hj] at this
  simp only [List.cons.injEq, and_true, true_and] at this
  omega
theorem data_inj {s t : ByteArray} (h : s.data.toList = t.data.toList) : s = t := ByteArray.ext (Array.toList_inj.1 h)
theorem lu_no {es : List (Value × Value)} {s : ByteArray} (h : s.data.toList ∉ es.map keyB) : luS es s = none := by
  cases hl : luS es s with
  | none => rfl
  | some v => exact absurd (lu_key hl) h
theorem lu_yes {es : List (Value × Value)} (hk : keysS es = true) {s : ByteArray} (h : s.data.toList ∈ es.map keyB) : (luS es s).isSome = true := by
  obtain ⟨e, _, he⟩ := lu_some hk h
  rw [he]; rfl
/-- The content, so many names later. -/
def EE (es0 : List (Value × Value)) : Nat → List (Value × Value)
  | 0 => es0
  | j + 1 => putEs (EE es0 j) (nmJ j) ⟨#[]⟩
def ekeys (j : Nat) : List (List UInt8) := kC.data.toList :: (List.range j).map fun i => (nmJ i).data.toList
theorem ekeys_no {j k : Nat} (hj : j < 256) (hk : k ≤ j) : (nmJ j).data.toList ∉ ekeys k := by
  intro h
  rcases List.mem_cons.1 h with h | h
  · have := congrArg ByteArray.size (data_inj h)
    rw [nmJ_size] at this
    exact absurd this (by decide)
  · obtain ⟨i, hi, e⟩ := List.mem_map.1 h
    have hlt := List.mem_range.1 hi
    have := nmJ_inj (by omega) hj (data_inj e)
    omega
theorem EE_P {t : ByteArray} (ht : t.size ≤ 65535) : ∀ j, j ≤ 63 → Es (EE (kv kC t) j) ∧ (EE (kv kC t) j).map keyB = ekeys j
  | 0, _ => ⟨kv_es (by decide) (by decide) ht, rfl⟩
  | j + 1, hj => by
    obtain ⟨h1, h2⟩ := EE_P ht j (by omega)
    have hl : (EE (kv kC t) j).length = j + 1 := by
      have := congrArg List.length h2
      rw [List.length_map] at this
      rw [this]; simp [ekeys]
    have he : putE (EE (kv kC t) j) (nmJ j) ⟨#[]⟩ = 0 := putE_ok (by rw [nmJ_size]; decide) (by rw [nmJ_size]; decide) (by decide) (by omega)
    refine ⟨h1.put _ _, ?_⟩
    show (putEs (EE (kv kC t) j) (nmJ j) ⟨#[]⟩).map keyB = _
    rw [putEs_ok he, keyB_up h1.keys, h2, if_neg (ekeys_no (by omega) (Nat.le_refl _))]
    unfold ekeys
    rw [List.range_succ, List.map_append, List.cons_append]
    rfl
theorem EE_len {t : ByteArray} (ht : t.size ≤ 65535) {j : Nat} (hj : j ≤ 63) : (EE (kv kC t) j).length = j + 1 := by
  have := congrArg List.length (EE_P ht j hj).2
  rw [List.length_map] at this
  rw [this]; simp [ekeys]
theorem EE_put {t : ByteArray} (ht : t.size ≤ 65535) {j : Nat} (hj : j < 63) : putE (EE (kv kC t) j) (nmJ j) ⟨#[]⟩ = 0 :=
  putE_ok (by rw [nmJ_size]; decide) (by rw [nmJ_size]; decide) (by decide) (by rw [EE_len ht (by omega)]; omega)
theorem EE_full {t : ByteArray} (ht : t.size ≤ 65535) {s : ByteArray} (h0 : s.size ≠ 0) (h1 : s.size ≤ 32) (hs : s.data.toList ∉ ekeys 63) : putE (EE (kv kC t) 63) s ⟨#[]⟩ = 6 := by
  obtain ⟨_, h2⟩ := EE_P ht 63 (Nat.le_refl _)
  unfold putE
  rw [if_neg (by omega), if_neg (by decide), if_pos]
  refine ⟨?_, by rw [EE_len ht (Nat.le_refl _)]; decide⟩
  rw [lu_no (by rw [h2]; exact hs)]; rfl
theorem EE_64 {t : ByteArray} (ht : t.size ≤ 65535) : EE (kv kC t) 64 = EE (kv kC t) 63 := by
  show putEs (EE (kv kC t) 63) (nmJ 63) ⟨#[]⟩ = _
  unfold putEs
  rw [EE_full ht (by rw [nmJ_size]; decide) (by rw [nmJ_size]; decide) (ekeys_no (by decide) (Nat.le_refl _)), if_neg (by decide)]
theorem EE_all {t : ByteArray} (ht : t.size ≤ 65535) {j : Nat} (hj : j ≤ 64) : Es (EE (kv kC t) j) := by
  by_cases h : j ≤ 63
  · exact (EE_P ht j h).1
  · have : j = 64 := by omega
    subst this
    rw [EE_64 ht]; exact (EE_P ht 63 (Nat.le_refl _)).1
theorem dl_len {es : List (Value × Value)} {s : ByteArray} (h : (luS es s).isSome = true) : (dlS es s).length + 1 = es.length := by
  induction es with
  | nil => cases h
  | cons e es ih =>
    unfold luS at h
    unfold dlS
    split at h
    · rename_i hc
      rw [if_pos hc]; rfl
    · rename_i hc
      rw [if_neg hc, List.length_cons, List.length_cons, ih h]
theorem up_len {es : List (Value × Value)} {s : ByteArray} {v : Value} (hk : keysS es = true) (h : s.data.toList ∈ es.map keyB) : (upS es s v).length = es.length ∧ (upS es s v).map keyB = es.map keyB := by
  have := keyB_up (v := v) hk (s := s)
  rw [if_pos h] at this
  refine ⟨?_, this⟩
  have := congrArg List.length this
  rw [List.length_map, List.length_map] at this
  exact this
/-- What the last calls answer. -/
structure Last (E : List (Value × Value)) : Prop where
  es : Es E
  len : E.length = 64
  z : putE E ⟨#[122]⟩ ⟨#[]⟩ = 6
  k : putE E kC ⟨#[]⟩ = 0
  key : kC.data.toList ∈ E.map keyB
theorem EE_last {t : ByteArray} (ht : t.size ≤ 65535) : Last (EE (kv kC t) 64) := by
  rw [EE_64 ht]
  obtain ⟨h1, h2⟩ := EE_P ht 63 (Nat.le_refl _)
  have hk : kC.data.toList ∈ (EE (kv kC t) 63).map keyB := by rw [h2]; exact List.mem_cons_self ..
  refine ⟨h1, EE_len ht (Nat.le_refl _), EE_full ht (by decide) (by decide) ?_, ?_, hk⟩
  · intro h
    rcases List.mem_cons.1 h with h | h
    · exact absurd (data_inj h) (by decide)
    · obtain ⟨i, hi, e⟩ := List.mem_map.1 h
      have := congrArg ByteArray.size (data_inj e)
      rw [nmJ_size] at this
      exact absurd this (by decide)
  · unfold putE
    rw [if_neg (by decide), if_neg (by decide), if_neg]
    rintro ⟨h, _⟩
    rw [lu_yes h1.keys hk] at h
    cases h
/-- Behind the put of 'k'. -/
def E1 (E : List (Value × Value)) : List (Value × Value) := upS E kC (.agg ⟨[.string ⟨#[]⟩]⟩)
theorem Last.put {E : List (Value × Value)} (h : Last E) : putEs E kC ⟨#[]⟩ = E1 E := putEs_ok h.k
theorem Last.e1 {E : List (Value × Value)} (h : Last E) : Es (E1 E) ∧ (luS (E1 E) kC).isSome = true ∧ (E1 E).length = 64 := by
  obtain ⟨h1, h2⟩ := up_len (v := .agg ⟨[.string ⟨#[]⟩]⟩) h.es.keys h.key
  have he : Es (E1 E) := by rw [← h.put]; exact h.es.put _ _
  exact ⟨he, lu_yes he.keys (by unfold E1; rw [h2]; exact h.key), by unfold E1; rw [h1]; exact h.len⟩
theorem Last.zero {E : List (Value × Value)} (h : Last E) : putE (dlS (E1 E) kC) ⟨#[122]⟩ ⟨#[]⟩ = 0 := by
  obtain ⟨h1, h2, h3⟩ := h.e1
  have := dl_len h2
  exact putE_ok (by decide) (by decide) (by decide) (by omega)
theorem putE_arg {es : List (Value × Value)} {s t : ByteArray} (h : s.size = 0 ∨ 32 < s.size) : putE es s t = 1 := if_pos h
theorem putE_long {es : List (Value × Value)} {s t : ByteArray} (h0 : s.size ≠ 0) (h1 : s.size ≤ 32) (ht : 65535 < t.size) : putE es s t = 4 := by
  unfold putE; rw [if_neg (by omega), if_pos ht]
theorem putEs_no {es : List (Value × Value)} {s t : ByteArray} (h : putE es s t ≠ 0) : putEs es s t = es := if_neg h
end Go.Sx

/- Cells: CellLimits. -/
set_option linter.unusedVariables false
set_option linter.unusedSimpArgs false
set_option maxRecDepth 100000
namespace Go.Sx
attribute [local go_sem ↓] bind_mk intsB_mk strsB_mk svB_mk fnVC ob_some vc_skip vc_exit vc_ret vc_seq vc_block kSeq_normal kSeq_exit kSeq_ret kBlock_normal kBlock_exit kBlock_ret vc_reg vc_regD vc_cond condK_true condK_false vc_loop kLoop_exit kLoop_ret kRoll_normal kRoll_exit kRoll_ret vcOps_nil vcOps_cons gd_bool gd_undef put_some put_none vcT_fin vcT_pure vcT_act vcT_acts vcT_stop stab_none stab_some stabM_nil stabM_cons stabO_ld stabO_ldn stabO_slP stabO_b2s fldOf_ai fldOf_agg fldOf_ait fldOf_aggt intsOf_nil intsOf_cons strsOf_nil strsOf_cons c_omap ob_if lk_nil lk_cons ev_t ev_k z_mov z_pick z_bin z_binB z_binP z_un z_r2s z_conv z_s2b z_b2s z_mkM z_luM z_upM z_lenM lenMk_mp lenMk_nil plsOf_v z_delM asM_so plV_v plV_agg mpOf_mp mpOf_nil mpUp_mp asM_mp luV_ok luV_v z_allocT aggOf_mk z_boxT z_alloc z_bld z_bldI z_rowI z_rowS z_ld z_ldn z_st z_stn asN_ptr asN_fn z_nilck z_fld z_fadr z_idxA z_idxP z_idxS z_idxV z_slS z_slL z_slP z_mk z_lenS z_lenL z_app appC_ints appC_pl appC_sv appC_strs isS_strs loose_ints loose_pl loose_sv z_slM z_callv callvK_fn callvK_f callvK_yl vc_rangeF rfEnd_eq rfGo_none rfGo_ret rfGo_exit yGo_mk yEnd_n yEnd_r yEnd_e yRdy_mk yMid_n putPs_nil putPs_cons leaf_v leaf_ptr leaf_sl leaf_yl leaf_mp z_appS z_appST z_appZ z_cpyS z_mkfn reps_int reps_str z_rowV z_slnil nilK_zero z_cpy z_call asT_tup z_extT z_box boxOf_ai boxOf_agg boxOf_int boxOf_str boxOf_bool boxOf_ptr boxOf_sl sbin_int sbin_str sbinB_mk sbinP_nn sbinP_pn sbinP_np i_add i_sub i_mul i_quo i_rem i_and i_or i_xor i_andNot i_shl i_shr i_eql i_neq i_lss i_leq i_gtr i_geq st_add st_eql st_neq st_lss st_leq st_gtr st_geq bo_eql bo_neq pt_eql pt_neq un_neg un_xor un_not asI_mk asB_mk asS_mk asP_mk asSl_mk asBy_mk bnd_none bnd_some get_mk hput_mk hdel_mk kill_eq wrOf_eq rowOf_eq rsvs_0 rsvs_1 rsvs_2 rsvs_3 rsv_t rsv_c1 rsv_cn nt_v nt_ptr nt_sl nt_agg nt_ai get_ints get_strs get_pl get_sv getN_ints getN_sv set_ints set_strs set_sv setN_ints setN_sv part_ints part_strs part_sv cat_ints cat_strs cat_sv over_ints over_strs over_sv ones_ints ones_strs evs_nil evs_cons condK_eqt condK_eqf det_callP V_ns V_nn V_gs V_gn obC_mk fresh_ev freshT_ev freshR_ev setN_plagg setN_intsv setN_svai setN_svagg over_intsv set_pl setN_pl setN_plai getN_pl getN_strs part_pl cat_pl over_pl over_plints z_mm
attribute [local go_sem] initTm ne_eq not_true_eq_false not_false_eq_true true_and and_true List.length_cons List.length_nil Int.toNat_natCast Nat.add_zero Nat.zero_add Nat.mul_one List.getElem?_cons_zero List.drop_zero List.take_length List.take_succ_cons List.take_zero List.take_nil List.drop_succ_cons Option.map_some Nat.le_refl implies_true List.getElem?_cons_succ decide_true decide_false Bool.not_true Bool.not_false beq_self_eq_true Nat.succ_ne_self Nat.one_ne_zero Nat.zero_ne_one vk_mk hk_mk nk_mk tok_eq plsOf_map intsOf_map bodyOf_pl bodyOf_ints bodyOf_strs bodyOf_sv part_aggv part_agg part_ai part_int part_str part_bool part_sl part_ptr part_nil numsOf_map u_int u_str u_bool u_pnil u_sl u_ptr u_oci u_ocs evq_nil evq_cons fillS_nil fillS_cons u_ocb ones_pl cells_sv cells_ints cells_strs cells_pl smms_nil smms_cons smm_min smm_max plsOf_nil List.nil_append List.all_cons List.all_nil Bool.and_self Bool.true_and Bool.and_true zws_len zw_len zi_len List.set_cons_zero List.set_cons_succ List.flatMap_cons List.flatMap_nil List.append_nil
attribute [local go_sem_proc] Nat.reduceEqDiff Nat.reduceAdd Nat.reduceMul Nat.reduceLT Nat.reduceLeDiff Nat.reduceSub Int.reduceToNat Int.reduceLE Int.reduceLT reduceCtorEq Int.reduceEq Int.reduceGT Int.reduceGE Int.reduceNeg
attribute [local go_sem_proc ↓] reduceIte
section
open Go.Proofs
variable {H : Hp} {n : Nat} {x : Nat → Option SO} {d d' : Fd} {i a b c : Nat} {u1 u2 u3 : Bool} {C C' : Ce}
set_option maxHeartbeats 4000000 in
theorem wLimits {hf mo : Int} (h1 : 0 ≤ hf ∧ hf ≤ 255) (h2 : 0 ≤ mo ∧ mo ≤ 255) :
    fnVC CT mCellLimits [.v (.int .u8 hf), .v (.int .u8 mo)] ⟨[], x⟩ 1 fun v H' n' => Sub 1 ⟨[(0, .v (.bool true))], ⟨[], x⟩, 1⟩ ⟨[(0, v)], H', n'⟩ := by
  unfold mCellLimits
  simp -implicitDefEqProofs only [↓fnVC, initTm]
  simp -implicitDefEqProofs only [go_sem]
  refine at_call tcommits commitsS ?_
  obtain ⟨h, hh⟩ : ∃ h : Nat, h = 2 + (hf % 9).toNat := ⟨_, rfl⟩
  have hb : 2 ≤ h ∧ h ≤ 10 := by omega
  obtain ⟨q, hq⟩ : ∃ q : Nat, q = (mo % 5).toNat := ⟨_, rfl⟩
  have hqb : q ≤ 4 := by omega
  have w1 : IntKind.i64.wrap (hf.tmod 9) = ((h - 2 : Nat) : Int) := by rw [Int.tmod_eq_emod_of_nonneg h1.1, wrap_i64 (by omega) (by omega)]; omega
  have w2 : IntKind.i64.wrap (2 + ((h - 2 : Nat) : Int)) = (h : Int) := by rw [wrap_i64 (by omega) (by omega)]; omega
  have w3 : IntKind.i64.wrap (2 * (h : Int)) = ((2 * h : Nat) : Int) := by rw [wrap_i64 (by omega) (by omega)]; omega
  simp -implicitDefEqProofs only [go_sem, w1, w2, w3]
  refine at_call tFNew (nwD (k := 2 * h) (by omega) (by omega) (by decide)) ?_
  unfold devL
  simp -implicitDefEqProofs only [go_sem]
  have g0 : GoodP true (2 * h) 0 (List.replicate (2 * h) (zi 64)) [] (newD (2 * h)) := goodNew
  have P0 : Pl (newD (2 * h)) (2 * h) 0 := Pl.new (by omega)
  have R0 : Reg (newD (2 * h)).seen 0 h 0 1 [] := by rw [g0.seen']; exact Reg.new (by omega) (by omega)
  generalize newD (2 * h) = d0 at g0 P0 R0 ⊢
  refine at_call tCOpen (openR (B := 0) (h := h) (i := 1) (a := 2) (b := 3) (c := 4) (d := d0) ⟨by rfl, by rfl, by rfl, by rfl, by decide⟩ (by decide) (by omega) P0.ok g0.off (by rw [P0.len]; omega) R0 srtE_nil (by decide)) ?_
  have w4 : IntKind.i64.wrap ((h : Int) - 1) = ((h - 1 : Nat) : Int) := by rw [wrap_i64 (by omega) (by omega)]; omega
  have w5 : IntKind.i64.wrap (64 * ((h - 1 : Nat) : Int)) = ((64 * (h - 1) : Nat) : Int) := by rw [wrap_i64 (by omega) (by omega)]; omega
  have w6 : IntKind.i64.wrap (((64 * (h - 1) : Nat) : Int) - 7) = ((64 * (h - 1) - 7 : Nat) : Int) := by rw [wrap_i64 (by omega) (by omega)]; omega
  have w7 : IntKind.i64.wrap (((64 * (h - 1) - 7 : Nat) : Int) - 2) = ((64 * (h - 1) - 9 : Nat) : Int) := by rw [wrap_i64 (by omega) (by omega)]; omega
  have w8 : IntKind.i64.wrap (mo.tmod 5) = (q : Int) := by rw [Int.tmod_eq_emod_of_nonneg h2.1, wrap_i64 (by omega) (by omega)]; omega
  have w9 : IntKind.i64.wrap (((64 * (h - 1) - 9 : Nat) : Int) + (q : Int)) = ((64 * (h - 1) - 9 + q : Nat) : Int) := by rw [wrap_i64 (by omega) (by omega)]; omega
  simp -implicitDefEqProofs only [go_sem, w4, w5, w6, w7, w8, w9]
  obtain ⟨m, hm⟩ : ∃ m, m = 64 * (h - 1) - 9 + q := ⟨_, rfl⟩
  rw [← hm]
  have ht : (tx (List.take m (List.replicate m (0 : Int)))).size = m := by rw [tx_sz, List.length_take, List.length_replicate]; omega
  refine ⟨⟨by omega, by omega, by omega, by omega⟩, by rw [List.length_replicate]; exact Nat.le_refl _, ?_⟩
  generalize tx (List.take m (List.replicate m (0 : Int))) = t at ht ⊢
  have ht2 : t.size ≤ 65535 := by omega
  have ka : Es (kv kC t) := kv_es (by decide) (by decide) ht2
  have kz : (encB (kv kC t)).size = 7 + m := by rw [kv_size, ht]; rfl
  have pe : putE [] kC t = 0 := putE_ok (by decide) (by decide) ht2 (by decide)
  have pu : putEs [] kC t = kv kC t := putEs_ok pe
  refine at_call tCPut (putS' (C := ⟨0, h, 0, 1, false, [], []⟩) (d := d0) (i := 5) (D := 1) (a := 2) (b := 3) (c := 4) (M := 6) (W := 7) (es' := kv kC t) ⟨by rfl, by rfl, by rfl, by rfl, by rfl, by rfl, by rfl, by decide, by rfl, by rfl⟩ Es.nil pe pu) ?_
  have hC : (⟨0, h, 0, 1, false, kv kC t, []⟩ : Ce).ok := ⟨ka, Es.nil, by show 2 ≤ h ∧ h ≤ 129; omega, by show 0 ≤ 4096; decide, by show 1 ≤ 1; decide, by show 0 < 1000000000000; decide⟩
  simp -implicitDefEqProofs only [go_sem]
  have bq : decide ((m : Int) > ((64 * (h - 1) - 7 : Nat) : Int)) = decide (2 < q) := by
    by_cases hc : 2 < q
    · rw [decide_eq_true hc]; exact decide_eq_true (by omega)
    · rw [decide_eq_false hc]; exact decide_eq_false (by omega)
  rw [bq]
  by_cases hc : 2 < q
  · have hq4 : coR ⟨0, h, 0, 1, false, kv kC t, []⟩ d0 = (4, ⟨0, h, 0, 1, false, kv kC t, []⟩, d0) := by
      unfold coR
      rw [if_neg (by show ¬ (false = true); decide), if_pos (by show 64 * (h - 1) < (encB (kv kC t)).size; omega)]
    obtain ⟨C', hC'⟩ : ∃ C', C' = (⟨0, h, 0, 1, false, kv kC t, []⟩ : Ce) := ⟨_, rfl⟩
    have hnow : C'.now = kv kC t := by rw [hC']
    have hcp : (4, (⟨0, h, 0, 1, false, kv kC t, []⟩ : Ce), d0) = ((4 : Int), C', d0) := by rw [hC']
    rw [hcp] at hq4
    have dc : decide (2 < q) = true := decide_eq_true hc
    rw [dc]
    simp -implicitDefEqProofs only [go_sem]
    refine at_call tCCommit (commitS (C := ⟨0, h, 0, 1, false, kv kC t, []⟩) (d := d0) (i := 5) (D := 1) (a := 2) (b := 3) (c := 4) (M := 6) (W := 7) (m := 2 * h) (t := 0) ⟨by rfl, by rfl, by rfl, by rfl, by rfl, by rfl, by rfl, by decide, by rfl, by rfl⟩ hC P0 (by decide) (by decide) hq4) ?_
    clear hq4 hcp hC' hC
    generalize d0 = d2
    rw [hnow]
    simp -implicitDefEqProofs only [go_sem]
    refine loop_fam (fun (j : Nat) => j ≤ 64) (fun j => ⟨[(8, .ptr 5 0), (61, .v (.int .i64 j))], ⟨[(1, some ⟨true, devB d2 9 10 11⟩), (5, some ⟨true, cellB C' 1 6 12⟩), (6, some ⟨true, .mp (.map (EE (kv kC t) j))⟩), (9, some ⟨true, secB d2.seen⟩), (10, some ⟨true, secB d2.safe⟩), (11, some ⟨true, .pl (prow d2.pend)⟩), (12, some ⟨true, .mp (.map C'.was)⟩)], x⟩, 13⟩) (fun j => 64 - j) 0 (Nat.zero_le _) ?_ ?_
    · refine sub_mk [] rfl rfl rfl ?_
      simp only [tmSub, hpSub, objSub, eqTm, eqHp, rn, lk, SV.ren, SV.renC, SV.renB, SV.renA, ren_ints, ren_strs, ren_pl, ren_svs, SV.v.injEq, Value.int.injEq, Body.ints.injEq, SV.ptr.injEq, SV.sl.injEq, Value.string.injEq, Value.bool.injEq, List.map_cons, List.map_nil, forall_const, Nat.reduceLT, Nat.lt_add_one, imp_self, true_and, and_true, and_self, ob_some, get_mk, lk_cons, ↓reduceIte, Nat.reduceEqDiff, ne_eq, not_true_eq_false, not_false_eq_true, Nat.one_ne_zero, Nat.zero_ne_one, Nat.succ_ne_self, Nat.reduceAdd, Bool.false_eq_true, false_implies, implies_true, reduceCtorEq]
      repeat' (first | rfl | apply And.intro)
    · intro j hj
      simp -implicitDefEqProofs only [go_sem]
      refine condK_bb (fun c => ?_) (fun c => ?_)
      · have c1 : j < 64 := by have := of_decide_eq_true c; omega
        have w1 : IntKind.u8.wrap (j : Int) = (j : Int) := by
          show (j : Int) % 256 = j
          omega
        have w2 : IntKind.i64.wrap ((j : Int) + 1) = ((j + 1 : Nat) : Int) := by rw [wrap_i64 (by omega) (by omega)]; omega
        simp -implicitDefEqProofs only [go_sem, c, w1]
        have hL := EE_all ht2 hj
        obtain ⟨e, he, hec⟩ : ∃ e : Int, putE (EE (kv kC t) j) (nmJ j) ⟨#[]⟩ = e ∧ (e = 0 ∨ e = 6 ∧ j = 63) := by
          by_cases h63 : j < 63
          · exact ⟨0, EE_put ht2 h63, .inl rfl⟩
          · have e63 : j = 63 := by omega
            subst e63
            exact ⟨6, EE_full ht2 (by rw [nmJ_size]; decide) (by rw [nmJ_size]; decide) (ekeys_no (by decide) (Nat.le_refl _)), .inr ⟨rfl, rfl⟩⟩
        have hs : putEs (EE (kv kC t) j) (nmJ j) ⟨#[]⟩ = EE (kv kC t) (j + 1) := rfl
        generalize hEB : EE (kv kC t) (j + 1) = EB at hs ⊢
        generalize EE (kv kC t) j = EA at hL he hs ⊢
        refine at_call tCPut (putS' (C := { C' with now := EA }) (d := d2) (i := 5) (D := 1) (a := 9) (b := 10) (c := 11) (M := 6) (W := 12) (es' := EB) ⟨by rfl, by rfl, by rfl, by rfl, by rfl, by rfl, by rfl, by decide, by rfl, by rfl⟩ hL he hs) ?_
        rcases hec with rfl | ⟨rfl, h63⟩
        · simp -implicitDefEqProofs only [go_sem, w2]
          refine kLoop_mk (j + 1) (by omega) (by omega) ?_
          refine sub_mk [] rfl rfl rfl ?_
          simp only [tmSub, hpSub, objSub, eqTm, eqHp, rn, lk, SV.ren, SV.renC, SV.renB, SV.renA, ren_ints, ren_strs, ren_pl, ren_svs, SV.v.injEq, Value.int.injEq, Body.ints.injEq, SV.ptr.injEq, SV.sl.injEq, Value.string.injEq, Value.bool.injEq, List.map_cons, List.map_nil, forall_const, Nat.reduceLT, Nat.lt_add_one, imp_self, true_and, and_true, and_self, ob_some, get_mk, lk_cons, ↓reduceIte, Nat.reduceEqDiff, ne_eq, not_true_eq_false, not_false_eq_true, Nat.one_ne_zero, Nat.zero_ne_one, Nat.succ_ne_self, Nat.reduceAdd, Bool.false_eq_true, false_implies, implies_true, reduceCtorEq, hEB]
          repeat' (first | rfl | apply And.intro)
        · have c63 : decide ((j : Int) < 63) = false := decide_eq_false (by omega)
          simp -implicitDefEqProofs only [go_sem, w2, c63]
          refine kLoop_mk (j + 1) (by omega) (by omega) ?_
          refine sub_mk [] rfl rfl rfl ?_
          simp only [tmSub, hpSub, objSub, eqTm, eqHp, rn, lk, SV.ren, SV.renC, SV.renB, SV.renA, ren_ints, ren_strs, ren_pl, ren_svs, SV.v.injEq, Value.int.injEq, Body.ints.injEq, SV.ptr.injEq, SV.sl.injEq, Value.string.injEq, Value.bool.injEq, List.map_cons, List.map_nil, forall_const, Nat.reduceLT, Nat.lt_add_one, imp_self, true_and, and_true, and_self, ob_some, get_mk, lk_cons, ↓reduceIte, Nat.reduceEqDiff, ne_eq, not_true_eq_false, not_false_eq_true, Nat.one_ne_zero, Nat.zero_ne_one, Nat.succ_ne_self, Nat.reduceAdd, Bool.false_eq_true, false_implies, implies_true, reduceCtorEq, hEB]
          repeat' (first | rfl | apply And.intro)
      · have c1 : j = 64 := by have := of_decide_eq_false c; omega
        subst c1
        have hL := EE_last ht2
        generalize EE (kv kC t) 64 = E at hL ⊢
        simp -implicitDefEqProofs only [go_sem, c]
        refine at_call tCNames (cNamesS (C := { C' with now := E }) (d := d2) (i := 5) (D := 1) (a := 9) (b := 10) (c := 11) (M := 6) (W := 12) ⟨by rfl, by rfl, by rfl, by rfl, by rfl, by rfl, by rfl, by decide, by rfl, by rfl⟩ hL.es (by decide)) ?_
        have hl64 : decide (((E.length : Nat) : Int) = 64) = true := decide_eq_true (by rw [hL.len]; rfl)
        simp -implicitDefEqProofs only [go_sem, hl64]
        obtain ⟨e1, e2, e3⟩ := hL.e1
        have hz := hL.zero
        refine at_call tCPut (putS' (C := { C' with now := E }) (d := d2) (name := ⟨#[122]⟩) (text := ⟨#[]⟩) (e := 6) (es' := E) (i := 5) (D := 1) (a := 9) (b := 10) (c := 11) (M := 6) (W := 12) ⟨by rfl, by rfl, by rfl, by rfl, by rfl, by rfl, by rfl, by decide, by rfl, by rfl⟩ hL.es hL.z (putEs_no (by rw [hL.z]; decide))) ?_
        simp -implicitDefEqProofs only [go_sem]
        refine at_call tCPut (putS' (C := { C' with now := E }) (d := d2) (name := kC) (text := ⟨#[]⟩) (e := 0) (es' := E1 E) (i := 5) (D := 1) (a := 9) (b := 10) (c := 11) (M := 6) (W := 12) ⟨by rfl, by rfl, by rfl, by rfl, by rfl, by rfl, by rfl, by decide, by rfl, by rfl⟩ hL.es hL.k hL.put) ?_
        simp -implicitDefEqProofs only [go_sem]
        have e4 : Es (dlS (E1 E) kC) := e1.drop kC
        generalize hE1 : E1 E = E1' at e1 e2 e3 hz e4 ⊢
        refine at_call tCPut (putS' (C := { C' with now := E1' }) (d := d2) (name := ⟨#[]⟩) (text := ⟨#[]⟩) (e := 1) (es' := E1') (i := 5) (D := 1) (a := 9) (b := 10) (c := 11) (M := 6) (W := 12) ⟨by rfl, by rfl, by rfl, by rfl, by rfl, by rfl, by rfl, by decide, by rfl, by rfl⟩ e1 (putE_arg (.inl rfl)) (putEs_no (by rw [putE_arg (.inl rfl)]; decide))) ?_
        simp -implicitDefEqProofs only [go_sem]
        refine ⟨by decide, by rw [List.length_replicate]; exact Nat.le_refl _, ?_⟩
        have hnm : (tx (List.take 33 (List.replicate 33 (0 : Int)))).size = 33 := by rw [tx_sz, List.length_take, List.length_replicate]; rfl
        generalize tx (List.take 33 (List.replicate 33 (0 : Int))) = nm at hnm ⊢
        generalize List.replicate 33 (0 : Int) = R33
        refine at_call tCPut (putS' (C := { C' with now := E1' }) (d := d2) (name := nm) (text := ⟨#[]⟩) (e := 1) (es' := E1') (i := 5) (D := 1) (a := 9) (b := 10) (c := 11) (M := 6) (W := 12) ⟨by rfl, by rfl, by rfl, by rfl, by rfl, by rfl, by rfl, by decide, by rfl, by rfl⟩ e1 (putE_arg (.inr (by omega))) (putEs_no (by rw [putE_arg (.inr (by omega))]; decide))) ?_
        simp -implicitDefEqProofs only [go_sem]
        refine ⟨by decide, by rw [List.length_replicate]; exact Nat.le_refl _, ?_⟩
        have htm : (tx (List.take 65536 (List.replicate 65536 (0 : Int)))).size = 65536 := by rw [tx_sz, List.length_take, List.length_replicate, Nat.min_self]
        generalize tx (List.take 65536 (List.replicate 65536 (0 : Int))) = tm at htm ⊢
        generalize List.replicate 65536 (0 : Int) = R64
        have hlo : putE E1' kC tm = 4 := putE_long (by decide) (by decide) (by omega)
        refine at_call tCPut (putS' (C := { C' with now := E1' }) (d := d2) (name := kC) (text := tm) (e := 4) (es' := E1') (i := 5) (D := 1) (a := 9) (b := 10) (c := 11) (M := 6) (W := 12) ⟨by rfl, by rfl, by rfl, by rfl, by rfl, by rfl, by rfl, by decide, by rfl, by rfl⟩ e1 hlo (putEs_no (by rw [hlo]; decide))) ?_
        simp -implicitDefEqProofs only [go_sem]
        refine at_call tCDrop (dropS (C := { C' with now := E1' }) (d := d2) (name := kC) (i := 5) (D := 1) (a := 9) (b := 10) (c := 11) (M := 6) (W := 12) ⟨by rfl, by rfl, by rfl, by rfl, by rfl, by rfl, by rfl, by decide, by rfl, by rfl⟩ e1) ?_
        rw [e2]
        generalize hdl : dlS E1' kC = ED at e4 hz ⊢
        simp -implicitDefEqProofs only [go_sem, hdl]
        refine at_call tCPut (putS' (C := { C' with now := ED }) (d := d2) (name := ⟨#[122]⟩) (text := ⟨#[]⟩) (e := 0) (es' := putEs ED ⟨#[122]⟩ ⟨#[]⟩) (i := 5) (D := 1) (a := 9) (b := 10) (c := 11) (M := 6) (W := 12) ⟨by rfl, by rfl, by rfl, by rfl, by rfl, by rfl, by rfl, by decide, by rfl, by rfl⟩ e4 hz rfl) ?_
        simp -implicitDefEqProofs only [go_sem]
        refine sub_mk [] rfl rfl rfl ?_
        simp only [tmSub, hpSub, objSub, eqTm, eqHp, rn, lk, SV.ren, SV.renC, SV.renB, SV.renA, ren_ints, ren_strs, ren_pl, ren_svs, SV.v.injEq, Value.int.injEq, Body.ints.injEq, SV.ptr.injEq, SV.sl.injEq, Value.string.injEq, Value.bool.injEq, List.map_cons, List.map_nil, forall_const, Nat.reduceLT, Nat.lt_add_one, imp_self, true_and, and_true, and_self, ob_some, get_mk, lk_cons, ↓reduceIte, Nat.reduceEqDiff, ne_eq, not_true_eq_false, not_false_eq_true, Nat.one_ne_zero, Nat.zero_ne_one, Nat.succ_ne_self, Nat.reduceAdd, Bool.false_eq_true, false_implies, implies_true, reduceCtorEq]
  · obtain ⟨d2, hq4, g2⟩ := coR_good (C := ⟨0, h, 0, 1, false, kv kC t, []⟩) (d := d0) rfl (by show 2 ≤ h; omega) (by show (encB (kv kC t)).size ≤ 64 * (h - 1); omega) g0 (by show 0 + 2 * h ≤ 2 * h; omega) (by show 1 ≤ 1; decide)
    obtain ⟨C', hC'⟩ : ∃ C', C' = (⟨0, h, 0 + 1, 1 - 1, false, kv kC t, kv kC t⟩ : Ce) := ⟨_, rfl⟩
    have hnow : C'.now = kv kC t := by rw [hC']
    replace hq4 : coR ⟨0, h, 0, 1, false, kv kC t, []⟩ d0 = (0, C', d2) := by rw [hq4, hC']
    have dc : decide (2 < q) = false := decide_eq_false hc
    rw [dc]
    simp -implicitDefEqProofs only [go_sem]
    refine at_call tCCommit (commitS (C := ⟨0, h, 0, 1, false, kv kC t, []⟩) (d := d0) (i := 5) (D := 1) (a := 2) (b := 3) (c := 4) (M := 6) (W := 7) (m := 2 * h) (t := 0) ⟨by rfl, by rfl, by rfl, by rfl, by rfl, by rfl, by rfl, by decide, by rfl, by rfl⟩ hC P0 (by decide) (by decide) hq4) ?_
    clear hq4 hC' hC g2
    rw [hnow]
    simp -implicitDefEqProofs only [go_sem]
    refine loop_fam (fun (j : Nat) => j ≤ 64) (fun j => ⟨[(8, .ptr 5 0), (61, .v (.int .i64 j))], ⟨[(1, some ⟨true, devB d2 9 10 11⟩), (5, some ⟨true, cellB C' 1 6 12⟩), (6, some ⟨true, .mp (.map (EE (kv kC t) j))⟩), (9, some ⟨true, secB d2.seen⟩), (10, some ⟨true, secB d2.safe⟩), (11, some ⟨true, .pl (prow d2.pend)⟩), (12, some ⟨true, .mp (.map C'.was)⟩)], x⟩, 13⟩) (fun j => 64 - j) 0 (Nat.zero_le _) ?_ ?_
    · refine sub_mk [] rfl rfl rfl ?_
      simp only [tmSub, hpSub, objSub, eqTm, eqHp, rn, lk, SV.ren, SV.renC, SV.renB, SV.renA, ren_ints, ren_strs, ren_pl, ren_svs, SV.v.injEq, Value.int.injEq, Body.ints.injEq, SV.ptr.injEq, SV.sl.injEq, Value.string.injEq, Value.bool.injEq, List.map_cons, List.map_nil, forall_const, Nat.reduceLT, Nat.lt_add_one, imp_self, true_and, and_true, and_self, ob_some, get_mk, lk_cons, ↓reduceIte, Nat.reduceEqDiff, ne_eq, not_true_eq_false, not_false_eq_true, Nat.one_ne_zero, Nat.zero_ne_one, Nat.succ_ne_self, Nat.reduceAdd, Bool.false_eq_true, false_implies, implies_true, reduceCtorEq]
      repeat' (first | rfl | apply And.intro)
    · intro j hj
      simp -implicitDefEqProofs only [go_sem]
      refine condK_bb (fun c => ?_) (fun c => ?_)
      · have c1 : j < 64 := by have := of_decide_eq_true c; omega
        have w1 : IntKind.u8.wrap (j : Int) = (j : Int) := by
          show (j : Int) % 256 = j
          omega
        have w2 : IntKind.i64.wrap ((j : Int) + 1) = ((j + 1 : Nat) : Int) := by rw [wrap_i64 (by omega) (by omega)]; omega
        simp -implicitDefEqProofs only [go_sem, c, w1]
        have hL := EE_all ht2 hj
        obtain ⟨e, he, hec⟩ : ∃ e : Int, putE (EE (kv kC t) j) (nmJ j) ⟨#[]⟩ = e ∧ (e = 0 ∨ e = 6 ∧ j = 63) := by
          by_cases h63 : j < 63
          · exact ⟨0, EE_put ht2 h63, .inl rfl⟩
          · have e63 : j = 63 := by omega
            subst e63
            exact ⟨6, EE_full ht2 (by rw [nmJ_size]; decide) (by rw [nmJ_size]; decide) (ekeys_no (by decide) (Nat.le_refl _)), .inr ⟨rfl, rfl⟩⟩
        have hs : putEs (EE (kv kC t) j) (nmJ j) ⟨#[]⟩ = EE (kv kC t) (j + 1) := rfl
        generalize hEB : EE (kv kC t) (j + 1) = EB at hs ⊢
        generalize EE (kv kC t) j = EA at hL he hs ⊢
        refine at_call tCPut (putS' (C := { C' with now := EA }) (d := d2) (i := 5) (D := 1) (a := 9) (b := 10) (c := 11) (M := 6) (W := 12) (es' := EB) ⟨by rfl, by rfl, by rfl, by rfl, by rfl, by rfl, by rfl, by decide, by rfl, by rfl⟩ hL he hs) ?_
        rcases hec with rfl | ⟨rfl, h63⟩
        · simp -implicitDefEqProofs only [go_sem, w2]
          refine kLoop_mk (j + 1) (by omega) (by omega) ?_
          refine sub_mk [] rfl rfl rfl ?_
          simp only [tmSub, hpSub, objSub, eqTm, eqHp, rn, lk, SV.ren, SV.renC, SV.renB, SV.renA, ren_ints, ren_strs, ren_pl, ren_svs, SV.v.injEq, Value.int.injEq, Body.ints.injEq, SV.ptr.injEq, SV.sl.injEq, Value.string.injEq, Value.bool.injEq, List.map_cons, List.map_nil, forall_const, Nat.reduceLT, Nat.lt_add_one, imp_self, true_and, and_true, and_self, ob_some, get_mk, lk_cons, ↓reduceIte, Nat.reduceEqDiff, ne_eq, not_true_eq_false, not_false_eq_true, Nat.one_ne_zero, Nat.zero_ne_one, Nat.succ_ne_self, Nat.reduceAdd, Bool.false_eq_true, false_implies, implies_true, reduceCtorEq, hEB]
          repeat' (first | rfl | apply And.intro)
        · have c63 : decide ((j : Int) < 63) = false := decide_eq_false (by omega)
          simp -implicitDefEqProofs only [go_sem, w2, c63]
          refine kLoop_mk (j + 1) (by omega) (by omega) ?_
          refine sub_mk [] rfl rfl rfl ?_
          simp only [tmSub, hpSub, objSub, eqTm, eqHp, rn, lk, SV.ren, SV.renC, SV.renB, SV.renA, ren_ints, ren_strs, ren_pl, ren_svs, SV.v.injEq, Value.int.injEq, Body.ints.injEq, SV.ptr.injEq, SV.sl.injEq, Value.string.injEq, Value.bool.injEq, List.map_cons, List.map_nil, forall_const, Nat.reduceLT, Nat.lt_add_one, imp_self, true_and, and_true, and_self, ob_some, get_mk, lk_cons, ↓reduceIte, Nat.reduceEqDiff, ne_eq, not_true_eq_false, not_false_eq_true, Nat.one_ne_zero, Nat.zero_ne_one, Nat.succ_ne_self, Nat.reduceAdd, Bool.false_eq_true, false_implies, implies_true, reduceCtorEq, hEB]
          repeat' (first | rfl | apply And.intro)
      · have c1 : j = 64 := by have := of_decide_eq_false c; omega
        subst c1
        have hL := EE_last ht2
        generalize EE (kv kC t) 64 = E at hL ⊢
        simp -implicitDefEqProofs only [go_sem, c]
        refine at_call tCNames (cNamesS (C := { C' with now := E }) (d := d2) (i := 5) (D := 1) (a := 9) (b := 10) (c := 11) (M := 6) (W := 12) ⟨by rfl, by rfl, by rfl, by rfl, by rfl, by rfl, by rfl, by decide, by rfl, by rfl⟩ hL.es (by decide)) ?_
        have hl64 : decide (((E.length : Nat) : Int) = 64) = true := decide_eq_true (by rw [hL.len]; rfl)
        simp -implicitDefEqProofs only [go_sem, hl64]
        obtain ⟨e1, e2, e3⟩ := hL.e1
        have hz := hL.zero
        refine at_call tCPut (putS' (C := { C' with now := E }) (d := d2) (name := ⟨#[122]⟩) (text := ⟨#[]⟩) (e := 6) (es' := E) (i := 5) (D := 1) (a := 9) (b := 10) (c := 11) (M := 6) (W := 12) ⟨by rfl, by rfl, by rfl, by rfl, by rfl, by rfl, by rfl, by decide, by rfl, by rfl⟩ hL.es hL.z (putEs_no (by rw [hL.z]; decide))) ?_
        simp -implicitDefEqProofs only [go_sem]
        refine at_call tCPut (putS' (C := { C' with now := E }) (d := d2) (name := kC) (text := ⟨#[]⟩) (e := 0) (es' := E1 E) (i := 5) (D := 1) (a := 9) (b := 10) (c := 11) (M := 6) (W := 12) ⟨by rfl, by rfl, by rfl, by rfl, by rfl, by rfl, by rfl, by decide, by rfl, by rfl⟩ hL.es hL.k hL.put) ?_
        simp -implicitDefEqProofs only [go_sem]
        have e4 : Es (dlS (E1 E) kC) := e1.drop kC
        generalize hE1 : E1 E = E1' at e1 e2 e3 hz e4 ⊢
        refine at_call tCPut (putS' (C := { C' with now := E1' }) (d := d2) (name := ⟨#[]⟩) (text := ⟨#[]⟩) (e := 1) (es' := E1') (i := 5) (D := 1) (a := 9) (b := 10) (c := 11) (M := 6) (W := 12) ⟨by rfl, by rfl, by rfl, by rfl, by rfl, by rfl, by rfl, by decide, by rfl, by rfl⟩ e1 (putE_arg (.inl rfl)) (putEs_no (by rw [putE_arg (.inl rfl)]; decide))) ?_
        simp -implicitDefEqProofs only [go_sem]
        refine ⟨by decide, by rw [List.length_replicate]; exact Nat.le_refl _, ?_⟩
        have hnm : (tx (List.take 33 (List.replicate 33 (0 : Int)))).size = 33 := by rw [tx_sz, List.length_take, List.length_replicate]; rfl
        generalize tx (List.take 33 (List.replicate 33 (0 : Int))) = nm at hnm ⊢
        generalize List.replicate 33 (0 : Int) = R33
        refine at_call tCPut (putS' (C := { C' with now := E1' }) (d := d2) (name := nm) (text := ⟨#[]⟩) (e := 1) (es' := E1') (i := 5) (D := 1) (a := 9) (b := 10) (c := 11) (M := 6) (W := 12) ⟨by rfl, by rfl, by rfl, by rfl, by rfl, by rfl, by rfl, by decide, by rfl, by rfl⟩ e1 (putE_arg (.inr (by omega))) (putEs_no (by rw [putE_arg (.inr (by omega))]; decide))) ?_
        simp -implicitDefEqProofs only [go_sem]
        refine ⟨by decide, by rw [List.length_replicate]; exact Nat.le_refl _, ?_⟩
        have htm : (tx (List.take 65536 (List.replicate 65536 (0 : Int)))).size = 65536 := by rw [tx_sz, List.length_take, List.length_replicate, Nat.min_self]
        generalize tx (List.take 65536 (List.replicate 65536 (0 : Int))) = tm at htm ⊢
        generalize List.replicate 65536 (0 : Int) = R64
        have hlo : putE E1' kC tm = 4 := putE_long (by decide) (by decide) (by omega)
        refine at_call tCPut (putS' (C := { C' with now := E1' }) (d := d2) (name := kC) (text := tm) (e := 4) (es' := E1') (i := 5) (D := 1) (a := 9) (b := 10) (c := 11) (M := 6) (W := 12) ⟨by rfl, by rfl, by rfl, by rfl, by rfl, by rfl, by rfl, by decide, by rfl, by rfl⟩ e1 hlo (putEs_no (by rw [hlo]; decide))) ?_
        simp -implicitDefEqProofs only [go_sem]
        refine at_call tCDrop (dropS (C := { C' with now := E1' }) (d := d2) (name := kC) (i := 5) (D := 1) (a := 9) (b := 10) (c := 11) (M := 6) (W := 12) ⟨by rfl, by rfl, by rfl, by rfl, by rfl, by rfl, by rfl, by decide, by rfl, by rfl⟩ e1) ?_
        rw [e2]
        generalize hdl : dlS E1' kC = ED at e4 hz ⊢
        simp -implicitDefEqProofs only [go_sem, hdl]
        refine at_call tCPut (putS' (C := { C' with now := ED }) (d := d2) (name := ⟨#[122]⟩) (text := ⟨#[]⟩) (e := 0) (es' := putEs ED ⟨#[122]⟩ ⟨#[]⟩) (i := 5) (D := 1) (a := 9) (b := 10) (c := 11) (M := 6) (W := 12) ⟨by rfl, by rfl, by rfl, by rfl, by rfl, by rfl, by rfl, by decide, by rfl, by rfl⟩ e4 hz rfl) ?_
        simp -implicitDefEqProofs only [go_sem]
        refine sub_mk [] rfl rfl rfl ?_
        simp only [tmSub, hpSub, objSub, eqTm, eqHp, rn, lk, SV.ren, SV.renC, SV.renB, SV.renA, ren_ints, ren_strs, ren_pl, ren_svs, SV.v.injEq, Value.int.injEq, Body.ints.injEq, SV.ptr.injEq, SV.sl.injEq, Value.string.injEq, Value.bool.injEq, List.map_cons, List.map_nil, forall_const, Nat.reduceLT, Nat.lt_add_one, imp_self, true_and, and_true, and_self, ob_some, get_mk, lk_cons, ↓reduceIte, Nat.reduceEqDiff, ne_eq, not_true_eq_false, not_false_eq_true, Nat.one_ne_zero, Nat.zero_ne_one, Nat.succ_ne_self, Nat.reduceAdd, Bool.false_eq_true, false_implies, implies_true, reduceCtorEq]
end
end Go.Sx