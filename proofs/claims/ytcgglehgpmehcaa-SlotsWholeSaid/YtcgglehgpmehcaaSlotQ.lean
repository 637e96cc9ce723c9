/- Slots: wherever the power goes. -/
import Derived.Test.YtcgglehgpmehcaaSlotB
import Derived.Test.YtcgglehgpmehcaaSlotM

set_option linter.unusedVariables false
set_option linter.unusedSimpArgs false
set_option maxRecDepth 100000
namespace Go.Sx
open Go.Proofs
variable {H : Hp} {n : Nat} {x : Nat → Option SO} {d d' : Fd} {i a b c : Nat} {u1 u2 u3 : Bool}

/-- An image stands there. -/
def Has (S : List (List Int)) (a0 v : Nat) (I : ByteArray) : Prop := S.getD a0 [] = hd64 v I ∧ ∀ k, k < nCh I → S.getD (a0 + 1 + k) [] = pad64 (bts (chk I k))
/-- Nothing stands there. -/
def Nix (S : List (List Int)) (a0 : Nat) : Prop := (S.getD a0 []).length = 64 ∧ (∀ y ∈ S.getD a0 [], 0 ≤ y ∧ y ≤ 255) ∧ ((S.getD a0 []).getD 0 0 = 0 ∨ (S.getD a0 []).getD 0 0 ≠ (S.getD a0 []).getD 37 0)
theorem byte_be {T : List Int} {k : Nat} (hT : ∀ y ∈ T, 0 ≤ y ∧ y ≤ 255) (hk : k < T.length) : (T.drop k).take 1 = be (T.getD k 0).toNat 1 ∧ (T.getD k 0).toNat < 256 ∧ 0 ≤ T.getD k 0 := by
  have e : T.getD k 0 = T[k] := by rw [List.getD_eq_getElem?_getD, List.getElem?_eq_getElem hk]; rfl
  have h := hT _ (List.getElem_mem hk)
  rw [e]
  refine ⟨?_, by omega, h.1⟩
  rw [List.drop_eq_getElem_cons hk, List.take_succ_cons, List.take_zero]
  unfold be
  simp
  omega
theorem srT_nix {bs r a0 : Nat} {slot : Int} (hs : slOK slot = true) (ho : d.off = false) (hat : atV bs r slot = a0) (h : Nix d.seen a0) : srT bs r slot d = (0, ⟨#[]⟩, 5) := by
  obtain ⟨h1, h2, h3⟩ := h
  obtain ⟨b1, b2, b3⟩ := byte_be (k := 0) h2 (by omega)
  obtain ⟨c1, c2, c3⟩ := byte_be (k := 37) h2 (by omega)
  exact srT_none hs ho hat rfl h2 b1 c1 b2 c2 (by omega)
theorem srT_has {bs r a0 v : Nat} {slot : Int} {I : ByteArray} (hs : slOK slot = true) (ho : d.off = false) (hat : atV bs r slot = a0) (h : Has d.seen a0 v I) (hv : 1 ≤ v ∧ v < 256) (hI : 1 ≤ I.size ∧ I.size ≤ 8192 ∧ I.size ≤ r * 64) : srT bs r slot d = (v, I, 0) :=
  srT_done hs ho hat h.1 h.2 hv hI
theorem done_has {S : List (List Int)} {a0 v r : Nat} {I : ByteArray} (h : a0 + 1 + r ≤ S.length) (hI : nCh I ≤ r) : Has (doneS S a0 v I) a0 v I := ⟨done_at (by omega), fun k hk => done_ch hk (by omega)⟩
theorem has_ne {S S' : List (List Int)} {a0 v r : Nat} {I : ByteArray} (h : Has S a0 v I) (hI : nCh I ≤ r) (he : ∀ k, a0 ≤ k → k ≤ a0 + r → S'.getD k [] = S.getD k []) : Has S' a0 v I :=
  ⟨by rw [he a0 (Nat.le_refl _) (by omega)]; exact h.1, fun k hk => by rw [he _ (by omega) (by omega)]; exact h.2 k hk⟩
theorem crl_ne {S : List (List Int)} {ws : List (Nat × List Int)} {kf : Nat → Nat} {j : Nat} (h : ∀ w ∈ ws, w.1 ≠ j) : ∀ {t : Nat}, t ≤ ws.length → (crl S ws kf t).getD j [] = S.getD j []
  | 0, _ => rfl
  | t + 1, ht => by
    have hm : ws.getD t (0, []) ∈ ws := by
      rw [List.getD_eq_getElem?_getD, List.getElem?_eq_getElem (by omega)]
      exact List.getElem_mem _
    show ((crl S ws kf t).set (ws.getD t (0, [])).1 _).getD j [] = _
    rw [getD_set_ne (h _ hm), crl_ne h (by omega)]
theorem z64_eq : z64 = List.replicate 64 0 := rfl
theorem z64_bytes : ∀ y ∈ z64, 0 ≤ y ∧ y ≤ 255 := pad_bytes bts_bytes
theorem hd64_len {v : Nat} {I : ByteArray} : (hd64 v I).length = 64 := pad64_len (by rw [bts_len, hdr_size]; decide)
theorem hd64_0 {v : Nat} {I : ByteArray} (hv : v < 256) : (hd64 v I).getD 0 0 = v := by
  have h := (byte_be (T := hd64 v I) (k := 0) hd64_bytes (by rw [hd64_len]; decide))
  have h2 := h.1.symm.trans hd_f1
  have h4 := h.2.1
  have h5 := h.2.2
  generalize (hd64 v I).getD 0 0 = z at h2 h4 h5 ⊢
  have := congrArg (fun l => l.getD 0 0) h2
  simp [be] at this
  omega
theorem nix_z {S : List (List Int)} {a0 : Nat} (h : S.getD a0 [] = z64) : Nix S a0 := by
  unfold Nix
  rw [h]
  exact ⟨rfl, z64_bytes, .inl rfl⟩
/-- A torn header. -/
def tornT (k : Nat) (A B : List Int) : List Int := A.take k ++ B.drop k
theorem torn_len {k : Nat} {A B : List Int} (hA : A.length = 64) (hB : B.length = 64) (hk : k ≤ 64) : (tornT k A B).length = 64 := by
  unfold tornT; rw [List.length_append, List.length_take, List.length_drop]; omega
theorem torn_get {k j : Nat} {A B : List Int} (hA : A.length = 64) (hk : k ≤ 64) : (tornT k A B).getD j 0 = if j < k then A.getD j 0 else B.getD j 0 := by
  unfold tornT
  rw [List.getD_eq_getElem?_getD]
  by_cases h : j < k
  · rw [if_pos h, List.getElem?_append_left (by rw [List.length_take]; omega), List.getElem?_take, if_pos h, List.getD_eq_getElem?_getD]
  · rw [if_neg h, List.getElem?_append_right (by rw [List.length_take]; omega), List.length_take, List.getElem?_drop, List.getD_eq_getElem?_getD]
    congr 2; omega
theorem torn_bytes {k : Nat} {A B : List Int} (hA : ∀ y ∈ A, 0 ≤ y ∧ y ≤ 255) (hB : ∀ y ∈ B, 0 ≤ y ∧ y ≤ 255) : ∀ y ∈ tornT k A B, 0 ≤ y ∧ y ≤ 255 := by
  intro y hy
  unfold tornT at hy
  rcases List.mem_append.1 hy with h | h
  · exact hA y (List.mem_of_mem_take h)
  · exact hB y (List.mem_of_mem_drop h)
theorem crl_one {S : List (List Int)} {a0 : Nat} {A : List Int} {kf : Nat → Nat} : crl S [(a0, A)] kf 1 = S.set a0 (tornT (kf 0) A (S.getD a0 [])) := rfl
/-- What a crash leaves of a write that was under way. -/
theorem torn {S X : List (List Int)} {Y : List (Nat × List Int)} {a0 v v' r : Nat} {I I' : ByteArray} {kf : Nat → Nat} (hkf : ∀ t, kf t ≤ 64) (hP : PhA S a0 v I X Y) (hold : Has S a0 v' I') (hl : a0 + 1 + r ≤ S.length) (hI : nCh I ≤ r) (hI' : nCh I' ≤ r) (hv : 1 ≤ v ∧ v < 256) :
    (∀ k, k < a0 ∨ a0 + r < k → (crl X Y kf Y.length).getD k [] = S.getD k []) ∧
    (Has (crl X Y kf Y.length) a0 v I ∨ Has (crl X Y kf Y.length) a0 v' I' ∨ Nix (crl X Y kf Y.length) a0) := by
  have hset : ∀ {k} (A : List Int), k < a0 ∨ a0 + r < k → (S.set a0 A).getD k [] = S.getD k [] := fun A h => getD_set_ne (by omega)
  have hall : ∀ {k}, k < a0 ∨ a0 + r < k → (setl (S.set a0 z64) (pch a0 I (nCh I))).getD k [] = S.getD k [] := fun h => by
    rw [setl_none (fun w hw => by have := pch_mem w hw; omega), hset _ h]
  have hz : (setl (S.set a0 z64) (pch a0 I (nCh I))).getD a0 [] = z64 := by
    rw [setl_none (fun w hw => by have := pch_mem w hw; omega), getD_set_eq (by omega)]
  cases hP with
  | p0 => exact ⟨fun k _ => rfl, .inr (.inl hold)⟩
  | p1 =>
    show (∀ k, k < a0 ∨ a0 + r < k → (crl S [(a0, z64)] kf 1).getD k [] = _) ∧ _
    rw [show [(a0, z64)].length = 1 from rfl, crl_one]
    refine ⟨fun k h => hset _ h, ?_⟩
    by_cases h0 : kf 0 = 0
    · rw [h0]
      refine .inr (.inl (has_ne hold hI' fun k h1 h2 => ?_))
      by_cases hk : a0 = k
      · subst hk; rw [getD_set_eq (by omega)]; rfl
      · rw [getD_set_ne hk]
    · refine .inr (.inr ?_)
      unfold Nix
      rw [getD_set_eq (by omega), hold.1]
      refine ⟨torn_len rfl hd64_len (hkf 0), torn_bytes z64_bytes hd64_bytes, .inl ?_⟩
      rw [torn_get rfl (hkf 0), if_pos (by omega)]; rfl
  | p2 j hj =>
    have hn : ∀ k, k ≤ a0 ∨ a0 + r < k → (crl (S.set a0 z64) (pch a0 I j) kf (pch a0 I j).length).getD k [] = (S.set a0 z64).getD k [] := fun k h =>
      crl_ne (fun w hw => by have := pch_mem w hw; omega) (Nat.le_refl _)
    refine ⟨fun k h => by rw [hn k (by omega), hset _ h], .inr (.inr (nix_z ?_))⟩
    rw [hn a0 (.inl (Nat.le_refl _)), getD_set_eq (by omega)]
  | p4 => exact ⟨fun k h => hall h, .inr (.inr (nix_z hz))⟩
  | p5 =>
    rw [show [(a0, hd64 v I)].length = 1 from rfl, crl_one, hz]
    have hlen : a0 < (setl (S.set a0 z64) (pch a0 I (nCh I))).length := by rw [setl_len, List.length_set]; omega
    refine ⟨fun k h => by rw [getD_set_ne (by omega), hall h], ?_⟩
    by_cases h38 : 38 ≤ kf 0
    · have e : tornT (kf 0) (hd64 v I) z64 = hd64 v I := by
        have h64 := hkf 0
        have hL : (hdrL v I).length = 38 := by rw [← tx_sz]; exact hdr_size
        unfold tornT
        rw [hd64_eq, z64_eq, List.take_append, List.take_of_length_le (by omega), List.drop_replicate, List.take_replicate, List.append_assoc, List.replicate_append_replicate]
        congr 2; omega
      rw [e]
      left
      refine ⟨getD_set_eq hlen, fun k hk => ?_⟩
      rw [getD_set_ne (by omega), setl_pch hk (by rw [List.length_set]; omega)]
    · refine .inr (.inr ?_)
      unfold Nix
      rw [getD_set_eq hlen]
      refine ⟨torn_len hd64_len rfl (hkf 0), torn_bytes hd64_bytes z64_bytes, ?_⟩
      rw [torn_get hd64_len (hkf 0), torn_get hd64_len (hkf 0), if_neg (c := 37 < kf 0) (by omega)]
      by_cases h0 : 0 < kf 0
      · rw [if_pos h0, hd64_0 hv.2]
        exact .inr (by show (v : Int) ≠ 0; omega)
      · rw [if_neg h0]; exact .inl rfl
/-- Both slots, behind a write that the power may have cut, and a crash. -/
theorem whole {v0 v1 v2 k : Nat} {f : Int} {I0 I1 I2 : ByteArray} {ks : List Int} (hk : k = 0 ∨ k = 1) (hv0 : 1 ≤ v0 ∧ v0 < 256) (hv1 : 1 ≤ v1 ∧ v1 < 256) (hv2 : 1 ≤ v2 ∧ v2 < 256)
    (z0 : 1 ≤ I0.size ∧ I0.size ≤ 801) (z1 : 1 ≤ I1.size ∧ I1.size ≤ 801) (z2 : 1 ≤ I2.size ∧ I2.size ≤ 801) {p0 p1 p3 : Int × Fd} {d4 : Fd}
    (e0 : swR 1 13 0 v0 I0 (newD 30) = p0) (e1 : swR 1 13 1 v1 I1 p0.2 = p1) (e3 : swR 1 13 k v2 I2 { p1.2 with fa := f } = p3) (e4 : crD p3.2 ks = d4) :
    p0.1 = 0 ∧ p1.1 = 0 ∧ d4.off = false ∧ (k ≠ 0 → srT 1 13 0 d4 = (v0, I0, 0)) ∧ (k ≠ 1 → srT 1 13 1 d4 = (v1, I1, 0)) ∧
      ((p3.1 = 0 ∧ srT 1 13 k d4 = (v2, I2, 0)) ∨ (p3.1 ≠ 0 ∧ (srT 1 13 k d4 = (v2, I2, 0) ∨ srT 1 13 k d4 = (if k = 0 then (v0, I0, 0) else (v1, I1, 0)) ∨ srT 1 13 k d4 = (0, ⟨#[]⟩, 5)))) := by
  have n0 : nCh I0 ≤ 13 := by unfold nCh; omega
  have n1 : nCh I1 ≤ 13 := by unfold nCh; omega
  have n2 : nCh I2 ≤ 13 := by unfold nCh; omega
  obtain ⟨r0, g0⟩ := inv_good (swR_inv (bs := 1) (r := 13) (slot := 0) (v := v0) (I := I0) (a0 := 1) (goodNew (m := 30)) (by decide) rfl rfl hv0 (by omega))
  rw [e0] at r0 g0
  obtain ⟨r1, g1⟩ := inv_good (swR_inv (bs := 1) (r := 13) (slot := 1) (v := v1) (I := I1) (a0 := 15) g0 (by decide) rfl rfl hv1 (by omega))
  rw [e1] at r1 g1
  generalize hS1 : doneS (List.replicate 30 (zi 64)) 1 v0 I0 = S1 at g0 g1
  generalize hS2 : doneS S1 15 v1 I1 = S2 at g1
  have l1 : S1.length = 30 := by rw [← hS1, done_len, List.length_replicate]
  have l2 : S2.length = 30 := by rw [← hS2, done_len, l1]
  have b0 : Has S2 1 v0 I0 := by
    refine has_ne (r := 13) (S := S1) ?_ n0 fun k h1 h2 => ?_
    · rw [← hS1]; exact done_has (r := 13) (by simp) n0
    · rw [← hS2, done_ne (.inl (by omega))]
  have b1 : Has S2 15 v1 I1 := by rw [← hS2]; exact done_has (r := 13) (by omega) n1
  obtain ⟨a, hat, ha⟩ : ∃ a : Nat, atV 1 13 k = a ∧ a = 1 + 14 * k := by
    rcases hk with rfl | rfl
    · exact ⟨1, rfl, rfl⟩
    · exact ⟨15, rfl, rfl⟩
  have hsk : slOK k = true := by rcases hk with rfl | rfl <;> rfl
  have g2 : GoodP false 30 p1.2.st S2 [] { p1.2 with fa := f } := ⟨g1.off, g1.safe, g1.pend, g1.sn, g1.len, rfl, fun h => by cases h⟩
  have h3 := swR_inv (bs := 1) (r := 13) (slot := k) (v := v2) (I := I2) (a0 := a) g2 (by omega) hsk hat hv2 (by omega)
  rw [e3] at h3
  have ho4 : d4.off = false := by rw [← e4]; rfl
  -- what stands there then
  obtain ⟨c1, c2⟩ : (∀ j, j < a ∨ a + 13 < j → d4.seen.getD j [] = S2.getD j []) ∧ ((p3.1 = 0 ∧ Has d4.seen a v2 I2) ∨ (p3.1 ≠ 0 ∧ (Has d4.seen a v2 I2 ∨ Has d4.seen a (if k = 0 then v0 else v1) (if k = 0 then I0 else I1) ∨ Nix d4.seen a))) := by
    have es : d4.seen = crl p3.2.safe p3.2.pend (keepN ks) p3.2.pend.length := by rw [← e4]; rfl
    rcases h3 with ⟨q, g⟩ | ⟨_, q, hP⟩
    · have e5 : d4.seen = doneS S2 a v2 I2 := by rw [es, g.safe, g.pend]; rfl
      rw [e5]
      exact ⟨fun j hj => done_ne (by omega), .inl ⟨q, done_has (r := 13) (by omega) n2⟩⟩
    · rw [es]
      have hold : Has S2 a (if k = 0 then v0 else v1) (if k = 0 then I0 else I1) := by
        rcases hk with rfl | rfl
        · rw [ha]; exact b0
        · rw [ha]; exact b1
      have := torn (r := 13) (fun t => keepN_le ks t) hP hold (by omega) n2 (by split <;> omega) hv2
      exact ⟨this.1, .inr ⟨by rw [q]; decide, this.2⟩⟩
  refine ⟨r0, r1, ho4, fun h => ?_, fun h => ?_, ?_⟩
  · have ka : a = 15 := by omega
    exact srT_has (a0 := 1) rfl ho4 rfl (has_ne b0 n0 fun j h1 h2 => c1 j (.inl (by omega))) hv0 (by omega)
  · have ka : a = 1 := by omega
    exact srT_has (a0 := 15) rfl ho4 rfl (has_ne b1 n1 fun j h1 h2 => c1 j (.inr (by omega))) hv1 (by omega)
  · rcases c2 with ⟨q, h⟩ | ⟨q, h | h | h⟩
    · exact .inl ⟨q, srT_has hsk ho4 hat h hv2 (by omega)⟩
    · exact .inr ⟨q, .inl (srT_has hsk ho4 hat h hv2 (by omega))⟩
    · refine .inr ⟨q, .inr (.inl ?_)⟩
      rcases hk with rfl | rfl
      · exact srT_has (I := I0) hsk ho4 hat h hv0 (by omega)
      · exact srT_has (I := I1) hsk ho4 hat h hv1 (by omega)
    · exact .inr ⟨q, .inr (.inr (srT_nix hsk ho4 hat h))⟩
end Go.Sx

/- Slots: SlotsWhole. -/
set_option linter.unusedVariables false
set_option linter.unusedSimpArgs false
set_option maxHeartbeats 4000000
set_option maxRecDepth 100000
namespace Go.Sx
attribute [local go_sem ↓] bind_mk intsB_mk strsB_mk svB_mk fnVC ob_some vc_skip vc_exit vc_ret vc_seq vc_block kSeq_normal kSeq_exit kSeq_ret kBlock_normal kBlock_exit kBlock_ret vc_reg vc_regD vc_cond condK_true condK_false vc_loop kLoop_exit kLoop_ret kRoll_normal kRoll_exit kRoll_ret vcOps_nil vcOps_cons gd_bool gd_undef put_some put_none vcT_fin vcT_pure vcT_act vcT_acts vcT_stop stab_none stab_some stabM_nil stabM_cons stabO_ld stabO_ldn stabO_slP stabO_b2s fldOf_ai fldOf_agg fldOf_ait fldOf_aggt intsOf_nil intsOf_cons strsOf_nil strsOf_cons c_omap ob_if lk_nil lk_cons ev_t ev_k z_mov z_pick z_bin z_binB z_binP z_un z_r2s z_conv z_s2b z_b2s z_allocT aggOf_mk z_boxT z_alloc z_bld z_bldI z_rowI z_rowS z_ld z_ldn z_st z_stn asN_ptr asN_fn z_nilck z_fld z_fadr z_idxA z_idxP z_idxS z_idxV z_slS z_slL z_slP z_mk z_lenS z_lenL z_app appC_ints appC_pl appC_sv appC_strs isS_strs loose_ints loose_pl loose_sv z_slM z_callv callvK_fn callvK_f callvK_yl vc_rangeF rfEnd_eq rfGo_none rfGo_ret rfGo_exit yGo_mk yEnd_n yEnd_r yEnd_e yRdy_mk yMid_n putPs_nil putPs_cons leaf_v leaf_ptr leaf_sl leaf_yl leaf_mp z_appS z_appST z_appZ z_cpyS z_mkfn reps_int reps_str z_rowV z_slnil nilK_zero z_cpy z_call asT_tup z_extT z_box boxOf_ai boxOf_agg boxOf_int boxOf_str boxOf_bool boxOf_ptr boxOf_sl sbin_int sbin_str sbinB_mk sbinP_nn sbinP_pn sbinP_np i_add i_sub i_mul i_quo i_rem i_and i_or i_xor i_andNot i_shl i_shr i_eql i_neq i_lss i_leq i_gtr i_geq st_add st_eql st_neq st_lss st_leq st_gtr st_geq bo_eql bo_neq pt_eql pt_neq un_neg un_xor un_not asI_mk asB_mk asS_mk asP_mk asSl_mk asBy_mk bnd_none bnd_some get_mk hput_mk hdel_mk kill_eq wrOf_eq rowOf_eq rsvs_0 rsvs_1 rsvs_2 rsvs_3 rsv_t rsv_c1 rsv_cn nt_v nt_ptr nt_sl nt_agg nt_ai get_ints get_strs get_pl get_sv getN_ints getN_sv set_ints set_strs set_sv setN_ints setN_sv part_ints part_strs part_sv cat_ints cat_strs cat_sv over_ints over_strs over_sv ones_ints ones_strs evs_nil evs_cons condK_eqt condK_eqf det_callP V_ns V_nn V_gs V_gn obC_mk fresh_ev freshT_ev freshR_ev setN_plagg setN_intsv setN_svai setN_svagg over_intsv set_pl setN_pl setN_plai getN_pl getN_strs part_pl cat_pl over_pl over_plints z_mm
attribute [local go_sem] initTm ne_eq not_true_eq_false not_false_eq_true true_and and_true List.length_cons List.length_nil Int.toNat_natCast Nat.add_zero Nat.zero_add Nat.mul_one List.getElem?_cons_zero List.drop_zero List.take_length List.take_succ_cons List.take_zero List.take_nil List.drop_succ_cons Option.map_some Nat.le_refl implies_true List.getElem?_cons_succ decide_true decide_false Bool.not_true Bool.not_false beq_self_eq_true Nat.succ_ne_self Nat.one_ne_zero Nat.zero_ne_one vk_mk hk_mk nk_mk tok_eq plsOf_map intsOf_map bodyOf_pl bodyOf_ints bodyOf_strs bodyOf_sv part_aggv part_agg part_ai part_int part_str part_bool part_sl part_ptr part_nil numsOf_map u_int u_str u_bool u_pnil u_sl u_ptr u_oci u_ocs evq_nil evq_cons fillS_nil fillS_cons u_ocb ones_pl cells_sv cells_ints cells_strs cells_pl smms_nil smms_cons smm_min smm_max plsOf_nil List.nil_append List.all_cons List.all_nil Bool.and_self Bool.true_and Bool.and_true zws_len zw_len zi_len List.set_cons_zero List.set_cons_succ List.flatMap_cons List.flatMap_nil List.append_nil
section
open Go.Proofs
variable {H : Hp} {n : Nat} {x : Nat → Option SO} {d d' : Fd} {i a b c : Nat} {u1 u2 u3 : Bool}

theorem lk_out {α : Type} {l : List (Nat × α)} {r : Nat} (h : ∀ e ∈ l, e.1 < 1000) (hr : 1000 ≤ r) : lk l r = none := by
  induction l with
  | nil => rfl
  | cons e l ih =>
    unfold lk
    have := h e (List.mem_cons_self ..)
    rw [if_neg (by omega)]
    exact ih (fun e he => h e (List.mem_cons_of_mem _ he))
theorem wWhole {V0 V1 V2 S F m : Nat} {X0 X1 X2 : ByteArray} {zs : List Int} (hV0 : V0 < 256) (hV1 : V1 < 256) (hV2 : V2 < 256) (hS : S < 256) (hF : F < 256) (hm : m ≤ zs.length) (hx : x 1003 = some ⟨false, .ints .i64 zs⟩) :
    fnVC CT mSlotsWhole [.agg [.v (.int .u8 V0), .v (.string X0), .v (.int .u8 V1), .v (.string X1), .v (.int .u8 V2), .v (.string X2), .v (.int .u8 S), .v (.int .u8 F)], .agg [.sl 1003 0 m 1]] ⟨[], x⟩ 1 fun v H' n' => Sub 1 ⟨[(0, .v (.bool true))], ⟨[], x⟩, 1⟩ ⟨[(0, v)], H', n'⟩ := by
  obtain ⟨v0, m0, hv0⟩ : ∃ v : Nat, max 1 (V0 : Int) = v ∧ 1 ≤ v ∧ v < 256 := ⟨max 1 V0, by omega, by omega, by omega⟩
  have hI0 := spI_size (X := X0) (m := 800)
  have c0 : (0 ≤ min (X0.size : Int) 800 ∧ min (X0.size : Int) 800 ≤ X0.size) ↔ True := by constructor <;> intro <;> (try trivial); omega
  have e0 : (⟨#[105]⟩ : ByteArray) ++ X0.extract 0 (min (X0.size : Int) 800).toNat = spI X0 800 := by
    rw [show (min (X0.size : Int) 800).toNat = min X0.size 800 by omega]; rfl
  have q0 : (#[(105 : UInt8)].size + (X0.extract 0 (min (X0.size : Int) 800).toNat).size ≤ 9223372036854775807) ↔ True := by
    constructor <;> intro <;> (try trivial)
    have := congrArg ByteArray.size e0
    rw [ByteArray.size_append] at this
    have h1 : (⟨#[105]⟩ : ByteArray).size = #[(105 : UInt8)].size := rfl
    omega
  generalize spI X0 800 = I0 at hI0 e0
  obtain ⟨v1, m1, hv1⟩ : ∃ v : Nat, max 1 (V1 : Int) = v ∧ 1 ≤ v ∧ v < 256 := ⟨max 1 V1, by omega, by omega, by omega⟩
  have hI1 := spI_size (X := X1) (m := 800)
  have c1 : (0 ≤ min (X1.size : Int) 800 ∧ min (X1.size : Int) 800 ≤ X1.size) ↔ True := by constructor <;> intro <;> (try trivial); omega
  have e1 : (⟨#[105]⟩ : ByteArray) ++ X1.extract 0 (min (X1.size : Int) 800).toNat = spI X1 800 := by
    rw [show (min (X1.size : Int) 800).toNat = min X1.size 800 by omega]; rfl
  have q1 : (#[(105 : UInt8)].size + (X1.extract 0 (min (X1.size : Int) 800).toNat).size ≤ 9223372036854775807) ↔ True := by
    constructor <;> intro <;> (try trivial)
    have := congrArg ByteArray.size e1
    rw [ByteArray.size_append] at this
    have h1 : (⟨#[105]⟩ : ByteArray).size = #[(105 : UInt8)].size := rfl
    omega
  generalize spI X1 800 = I1 at hI1 e1
  obtain ⟨v2, m2, hv2⟩ : ∃ v : Nat, max 1 (V2 : Int) = v ∧ 1 ≤ v ∧ v < 256 := ⟨max 1 V2, by omega, by omega, by omega⟩
  have hI2 := spI_size (X := X2) (m := 800)
  have c2 : (0 ≤ min (X2.size : Int) 800 ∧ min (X2.size : Int) 800 ≤ X2.size) ↔ True := by constructor <;> intro <;> (try trivial); omega
  have e2 : (⟨#[105]⟩ : ByteArray) ++ X2.extract 0 (min (X2.size : Int) 800).toNat = spI X2 800 := by
    rw [show (min (X2.size : Int) 800).toNat = min X2.size 800 by omega]; rfl
  have q2 : (#[(105 : UInt8)].size + (X2.extract 0 (min (X2.size : Int) 800).toNat).size ≤ 9223372036854775807) ↔ True := by
    constructor <;> intro <;> (try trivial)
    have := congrArg ByteArray.size e2
    rw [ByteArray.size_append] at this
    have h1 : (⟨#[105]⟩ : ByteArray).size = #[(105 : UInt8)].size := rfl
    omega
  generalize spI X2 800 = I2 at hI2 e2
  have h03 : (0 < ((3 : Nat) : Int)) ↔ True := by decide
  have h13 : (1 < ((3 : Nat) : Int)) ↔ True := by decide
  have h23 : (2 < ((3 : Nat) : Int)) ↔ True := by decide
  have w01 : IntKind.i64.wrap (0 + 1) = 1 := rfl
  have w12 : IntKind.i64.wrap (1 + 1) = 2 := rfl
  have w23 : IntKind.i64.wrap (2 + 1) = 3 := rfl
  unfold mSlotsWhole
  simp -implicitDefEqProofs only [↓fnVC, initTm]
  simp -implicitDefEqProofs only [go_sem, ↓reduceIte, Nat.reduceEqDiff, Nat.reduceAdd, Nat.reduceMul, Nat.reduceLT, Nat.reduceLeDiff, Nat.reduceSub, Int.reduceToNat, Int.reduceLE, Int.reduceLT, reduceCtorEq, Int.reduceEq, Int.reduceGT, Int.reduceGE, Int.reduceNeg]
  refine at_call tkeeps22 (keepsS (by decide)) ?_
  simp -implicitDefEqProofs only [go_sem, ↓reduceIte, Nat.reduceEqDiff, Nat.reduceAdd, Nat.reduceMul, Nat.reduceLT, Nat.reduceLeDiff, Nat.reduceSub, Int.reduceToNat, Int.reduceLE, Int.reduceLT, reduceCtorEq, Int.reduceEq, Int.reduceGT, Int.reduceGE, Int.reduceNeg]
  refine at_call tFNew (nwD (k := 30) (by decide) (by decide) (by decide)) ?_
  simp -implicitDefEqProofs only [go_sem, ↓reduceIte, Nat.reduceEqDiff, Nat.reduceAdd, Nat.reduceMul, Nat.reduceLT, Nat.reduceLeDiff, Nat.reduceSub, Int.reduceToNat, Int.reduceLE, Int.reduceLT, reduceCtorEq, Int.reduceEq, Int.reduceGT, Int.reduceGE, Int.reduceNeg, devL_eq, List.isEmpty_cons, Bool.false_eq_true, if_false]
  refine at_call tSOpen (openS (i := 3) (a := 4) (b := 5) (c := 6) (d := newD 30) (bs := 1) (r := 13) ⟨by rfl, by rfl, by rfl, by rfl, by decide⟩ (by decide) (by decide) rfl (by decide)) ?_
  simp -implicitDefEqProofs only [go_sem, ↓reduceIte, Nat.reduceEqDiff, Nat.reduceAdd, Nat.reduceMul, Nat.reduceLT, Nat.reduceLeDiff, Nat.reduceSub, Int.reduceToNat, Int.reduceLE, Int.reduceLT, reduceCtorEq, Int.reduceEq, Int.reduceGT, Int.reduceGE, Int.reduceNeg, devL_eq, List.isEmpty_cons, Bool.false_eq_true, if_false]
  refine ⟨by omega, by omega, ?_⟩
  have p1 : splice [SV.v (.int .u8 0), .v (.string ⟨#[]⟩), .v (.int .u8 0), .v (.string ⟨#[]⟩), .v (.int .u8 0), .v (.string ⟨#[]⟩)] 0 [.v (.int .u8 V0), .v (.string X0)] = [.v (.int .u8 V0), .v (.string X0), .v (.int .u8 0), .v (.string ⟨#[]⟩), .v (.int .u8 0), .v (.string ⟨#[]⟩)] := rfl
  have p2 : splice [SV.v (.int .u8 V0), .v (.string X0), .v (.int .u8 0), .v (.string ⟨#[]⟩), .v (.int .u8 0), .v (.string ⟨#[]⟩)] 2 [.v (.int .u8 V1), .v (.string X1)] = [.v (.int .u8 V0), .v (.string X0), .v (.int .u8 V1), .v (.string X1), .v (.int .u8 0), .v (.string ⟨#[]⟩)] := rfl
  have p3 : splice [SV.v (.int .u8 V0), .v (.string X0), .v (.int .u8 V1), .v (.string X1), .v (.int .u8 0), .v (.string ⟨#[]⟩)] 4 [.v (.int .u8 V2), .v (.string X2)] = [.v (.int .u8 V0), .v (.string X0), .v (.int .u8 V1), .v (.string X1), .v (.int .u8 V2), .v (.string X2)] := rfl
  have p4 : splice [Value.int .u8 0, .string ⟨#[]⟩, .int .u8 0, .string ⟨#[]⟩, .int .u8 0, .string ⟨#[]⟩] 0 [Value.int .u8 V0, .string X0, .int .u8 V1, .string X1, .int .u8 V2, .string X2] = [Value.int .u8 V0, .string X0, .int .u8 V1, .string X1, .int .u8 V2, .string X2] := rfl
  have p5 : plsOf [SV.v (.int .u8 V0), .v (.string X0), .v (.int .u8 V1), .v (.string X1), .v (.int .u8 V2), .v (.string X2)] = some [Value.int .u8 V0, .string X0, .int .u8 V1, .string X1, .int .u8 V2, .string X2] := rfl
  rw [p1, p2, p3, p5]
  simp -implicitDefEqProofs only [go_sem, ↓reduceIte, Nat.reduceEqDiff, Nat.reduceAdd, Nat.reduceMul, Nat.reduceLT, Nat.reduceLeDiff, Nat.reduceSub, Int.reduceToNat, Int.reduceLE, Int.reduceLT, reduceCtorEq, Int.reduceEq, Int.reduceGT, Int.reduceGE, Int.reduceNeg, p4]
  refine loop_roll 4 ?_
  rw [LoopU_succ]
  simp -implicitDefEqProofs only [go_sem, ↓reduceIte, Nat.reduceEqDiff, Nat.reduceAdd, Nat.reduceMul, Nat.reduceLT, Nat.reduceLeDiff, Nat.reduceSub, Int.reduceToNat, Int.reduceLE, Int.reduceLT, reduceCtorEq, Int.reduceEq, Int.reduceGT, Int.reduceGE, Int.reduceNeg, h03, h13, h23, w01, w12, w23, m0, c0, e0, q0, m1, c1, e1, q1, m2, c2, e2, q2]
  rw [LoopU_succ]
  simp -implicitDefEqProofs only [go_sem, ↓reduceIte, Nat.reduceEqDiff, Nat.reduceAdd, Nat.reduceMul, Nat.reduceLT, Nat.reduceLeDiff, Nat.reduceSub, Int.reduceToNat, Int.reduceLE, Int.reduceLT, reduceCtorEq, Int.reduceEq, Int.reduceGT, Int.reduceGE, Int.reduceNeg, h03, h13, h23, w01, w12, w23, m0, c0, e0, q0, m1, c1, e1, q1, m2, c2, e2, q2]
  rw [LoopU_succ]
  simp -implicitDefEqProofs only [go_sem, ↓reduceIte, Nat.reduceEqDiff, Nat.reduceAdd, Nat.reduceMul, Nat.reduceLT, Nat.reduceLeDiff, Nat.reduceSub, Int.reduceToNat, Int.reduceLE, Int.reduceLT, reduceCtorEq, Int.reduceEq, Int.reduceGT, Int.reduceGE, Int.reduceNeg, h03, h13, h23, w01, w12, w23, m0, c0, e0, q0, m1, c1, e1, q1, m2, c2, e2, q2]
  rw [LoopU_succ]
  simp -implicitDefEqProofs only [go_sem, ↓reduceIte, Nat.reduceEqDiff, Nat.reduceAdd, Nat.reduceMul, Nat.reduceLT, Nat.reduceLeDiff, Nat.reduceSub, Int.reduceToNat, Int.reduceLE, Int.reduceLT, reduceCtorEq, Int.reduceEq, Int.reduceGT, Int.reduceGE, Int.reduceNeg, h03, h13, h23, w01, w12, w23, m0, c0, e0, q0, m1, c1, e1, q1, m2, c2, e2, q2]
  have wv0 : IntKind.i64.wrap (v0 : Int) = v0 := wrap_i64 (by omega) (by omega)
  have wv1 : IntKind.i64.wrap (v1 : Int) = v1 := wrap_i64 (by omega) (by omega)
  have wv2 : IntKind.i64.wrap (v2 : Int) = v2 := wrap_i64 (by omega) (by omega)
  obtain ⟨k, wS, hk⟩ : ∃ k : Nat, IntKind.i64.wrap ((S : Int).tmod 2) = k ∧ (k = 0 ∨ k = 1) := ⟨S % 2, by rw [Int.tmod_eq_emod_of_nonneg (by omega), wrap_i64 (by omega) (by omega)]; rfl, by omega⟩
  obtain ⟨f, wF⟩ : ∃ f : Int, IntKind.i64.wrap ((F : Int).tmod 25) = f ∧ f < 9223372036854775808 := ⟨_, rfl, by rw [Int.tmod_eq_emod_of_nonneg (by omega), wrap_i64 (by omega) (by omega)]; omega⟩
  obtain ⟨wF, hf⟩ := wF
  generalize e0' : swR 1 13 0 v0 I0 (newD 30) = p0
  generalize e1' : swR 1 13 1 v1 I1 p0.2 = p1
  generalize e3' : swR 1 13 k v2 I2 { p1.2 with fa := max f 0 } = p3
  generalize e4' : crD p3.2 ((zs.drop 0).take m) = d4
  obtain ⟨r0, r1, ho4, ra, rb, rc⟩ := whole hk hv0 hv1 hv2 (by omega) (by omega) (by omega) e0' e1' e3' e4'
  have P0 := swR_pl (d := newD 30) (bs := 1) (r := 13) (slot := 0) (ver := v0) (I := I0) (m := 30) (t := 0) (Pl.new (by decide)) (by decide)
  rw [e0'] at P0
  have P1 := swR_pl (d := p0.2) (bs := 1) (r := 13) (slot := 1) (ver := v1) (I := I1) (m := 30) (t := 133) P0 (by decide)
  rw [e1'] at P1
  have P2 : Pl { p1.2 with fa := max f 0 } 30 (266 + 1) := P1.fall (by omega)
  have P3 := swR_pl (d := { p1.2 with fa := max f 0 }) (bs := 1) (r := 13) (slot := k) (ver := v2) (I := I2) (m := 30) (t := 267) P2 (by decide)
  rw [e3'] at P3
  have P4 : Pl d4 30 (400 + 1) := e4' ▸ P3.cr
  refine loop_roll 3 ?_
  rw [LoopU_succ]
  simp -implicitDefEqProofs only [go_sem, ↓reduceIte, Nat.reduceEqDiff, Nat.reduceAdd, Nat.reduceMul, Nat.reduceLT, Nat.reduceLeDiff, Nat.reduceSub, Int.reduceToNat, Int.reduceLE, Int.reduceLT, reduceCtorEq, Int.reduceEq, Int.reduceGT, Int.reduceGE, Int.reduceNeg, h03, h13, h23, w01, w12, wv0, wv1, wv2, wS, wF, List.isEmpty_cons, Bool.false_eq_true, if_false]
  refine at_call tSWrite (swriteS (q := 7) (i := 3) (a := 4) (b := 5) (c := 6) (d := newD 30) (bs := 1) (r := 13) (slot := 0) (ver := v0) (I := I0) (m := 30) (t := 0) (by decide) (by decide) (by rfl) ⟨by rfl, by rfl, by rfl, by rfl, by decide⟩ (by decide) (Pl.new (by decide)) (by decide) (by decide) e0') ?_
  rw [r0]
  simp -implicitDefEqProofs only [go_sem, ↓reduceIte, Nat.reduceEqDiff, Nat.reduceAdd, Nat.reduceMul, Nat.reduceLT, Nat.reduceLeDiff, Nat.reduceSub, Int.reduceToNat, Int.reduceLE, Int.reduceLT, reduceCtorEq, Int.reduceEq, Int.reduceGT, Int.reduceGE, Int.reduceNeg, devN_eq, h03, h13, h23, w01, w12, wv0, wv1, wv2, wS, wF, List.isEmpty_cons, Bool.false_eq_true, if_false]
  rw [LoopU_succ]
  simp -implicitDefEqProofs only [go_sem, ↓reduceIte, Nat.reduceEqDiff, Nat.reduceAdd, Nat.reduceMul, Nat.reduceLT, Nat.reduceLeDiff, Nat.reduceSub, Int.reduceToNat, Int.reduceLE, Int.reduceLT, reduceCtorEq, Int.reduceEq, Int.reduceGT, Int.reduceGE, Int.reduceNeg, h03, h13, h23, w01, w12, wv0, wv1, wv2, wS, wF, List.isEmpty_cons, Bool.false_eq_true, if_false]
  refine at_call tSWrite (swriteS (q := 7) (i := 3) (a := 9) (b := 10) (c := 11) (d := p0.2) (bs := 1) (r := 13) (slot := 1) (ver := v1) (I := I1) (m := 30) (t := 133) (by decide) (by decide) (by rfl) ⟨by rfl, by rfl, by rfl, by rfl, by decide⟩ (by decide) P0 (by decide) (by decide) e1') ?_
  rw [r1]
  simp -implicitDefEqProofs only [go_sem, ↓reduceIte, Nat.reduceEqDiff, Nat.reduceAdd, Nat.reduceMul, Nat.reduceLT, Nat.reduceLeDiff, Nat.reduceSub, Int.reduceToNat, Int.reduceLE, Int.reduceLT, reduceCtorEq, Int.reduceEq, Int.reduceGT, Int.reduceGE, Int.reduceNeg, devN_eq, h03, h13, h23, w01, w12, wv0, wv1, wv2, wS, wF, List.isEmpty_cons, Bool.false_eq_true, if_false]
  rw [LoopU_succ]
  simp -implicitDefEqProofs only [go_sem, ↓reduceIte, Nat.reduceEqDiff, Nat.reduceAdd, Nat.reduceMul, Nat.reduceLT, Nat.reduceLeDiff, Nat.reduceSub, Int.reduceToNat, Int.reduceLE, Int.reduceLT, reduceCtorEq, Int.reduceEq, Int.reduceGT, Int.reduceGE, Int.reduceNeg, h03, h13, h23, w01, w12, wv0, wv1, wv2, wS, wF, List.isEmpty_cons, Bool.false_eq_true, if_false]
  refine at_call tFFall (faG (d := p1.2) (i := 3) (a := 12) (b := 13) (c := 14) ⟨by rfl, by rfl, by rfl, by rfl, by decide⟩ rfl) ?_
  simp -implicitDefEqProofs only [go_sem, ↓reduceIte, Nat.reduceEqDiff, Nat.reduceAdd, Nat.reduceMul, Nat.reduceLT, Nat.reduceLeDiff, Nat.reduceSub, Int.reduceToNat, Int.reduceLE, Int.reduceLT, reduceCtorEq, Int.reduceEq, Int.reduceGT, Int.reduceGE, Int.reduceNeg, h03, h13, h23, w01, w12, wv0, wv1, wv2, wS, wF, List.isEmpty_cons, Bool.false_eq_true, if_false]
  refine at_call tSWrite (swriteS (q := 7) (i := 3) (a := 12) (b := 13) (c := 14) (d := { p1.2 with fa := max f 0 }) (bs := 1) (r := 13) (slot := k) (ver := v2) (I := I2) (m := 30) (t := 267) (by decide) (by decide) (by rfl) ⟨by rfl, by rfl, by rfl, by rfl, by decide⟩ (by decide) P2 (by decide) (by decide) e3') ?_
  simp -implicitDefEqProofs only [go_sem, ↓reduceIte, Nat.reduceEqDiff, Nat.reduceAdd, Nat.reduceMul, Nat.reduceLT, Nat.reduceLeDiff, Nat.reduceSub, Int.reduceToNat, Int.reduceLE, Int.reduceLT, reduceCtorEq, Int.reduceEq, Int.reduceGT, Int.reduceGE, Int.reduceNeg, devN_eq, h03, h13, h23, w01, w12, wv0, wv1, wv2, wS, wF, List.isEmpty_cons, Bool.false_eq_true, if_false]
  have hrow : ∀ l : List (Nat × Option SO), (∀ e ∈ l, e.1 < 1000) → rowAt ⟨l, x⟩ 1003 (.ints .i64 []) = some (.ints .i64 zs) := fun l hl => by
    unfold rowAt Hp.get
    rw [lk_out hl (by decide)]
    simp only [hx]
    rw [if_neg (by decide)]; rfl
  refine at_call tFCrash (crW (d := p3.2) (d' := d4) (i := 3) (a := 15) (b := 16) (c := 17) (r := 1003) (o := 0) (m := m) (row := zs) ⟨by rfl, by rfl, by rfl, by rfl, by decide⟩ P3.ok (by rw [P3.len]; decide) (by omega) (hrow _ (by simp)) (by decide) (by decide) e4') ?_
  simp -implicitDefEqProofs only [go_sem, ↓reduceIte, Nat.reduceEqDiff, Nat.reduceAdd, Nat.reduceMul, Nat.reduceLT, Nat.reduceLeDiff, Nat.reduceSub, Int.reduceToNat, Int.reduceLE, Int.reduceLT, reduceCtorEq, Int.reduceEq, Int.reduceGT, Int.reduceGE, Int.reduceNeg, h03, h13, h23, w01, w12, wv0, wv1, wv2, wS, wF, List.isEmpty_cons, Bool.false_eq_true, if_false]
  refine at_call tSOpen (openS (i := 3) (a := 18) (b := 16) (c := 19) (d := d4) (bs := 1) (r := 13) ⟨by rfl, by rfl, by rfl, by rfl, by decide⟩ (by rw [P4.len]; decide) (by rw [P4.len]; decide) ho4 (by decide)) ?_
  simp -implicitDefEqProofs only [go_sem, ↓reduceIte, Nat.reduceEqDiff, Nat.reduceAdd, Nat.reduceMul, Nat.reduceLT, Nat.reduceLeDiff, Nat.reduceSub, Int.reduceToNat, Int.reduceLE, Int.reduceLT, reduceCtorEq, Int.reduceEq, Int.reduceGT, Int.reduceGE, Int.reduceNeg, devL_eq, h03, h13, h23, w01, w12, wv0, wv1, wv2, wS, wF, List.isEmpty_cons, Bool.false_eq_true, if_false]
  generalize hE : p3.1 = E at rc
  refine loop_fam (fun (i : Nat) => i ≤ 2) (fun i => ⟨[(7, .ptr 20 0), (8, .v (.int .i64 E)), (9, .ptr 8 0), (12, .v (.int .i64 k)), (117, .v (.int .i64 i))], ⟨[(3, some ⟨true, devB d4 18 16 19⟩), (18, some ⟨true, secB d4.seen⟩), (16, some ⟨true, secB d4.safe⟩), (19, some ⟨true, .pl (prow d4.pend)⟩), (20, some ⟨true, slB 3 1 13⟩), (8, some ⟨true, .pl [.int .u8 v0, .string I0, .int .u8 v1, .string I1, .int .u8 v2, .string I2]⟩)], x⟩, 21⟩) (fun i => 2 - i) 0 (Nat.zero_le _) ?_ ?_
  · refine sub_mk [] rfl rfl rfl ?_
    simp only [tmSub, hpSub, objSub, eqTm, eqHp, rn, lk, SV.ren, SV.renC, SV.renB, SV.renA, ren_ints, ren_strs, ren_pl, ren_svs, SV.v.injEq, Value.int.injEq, Body.ints.injEq, SV.ptr.injEq, SV.sl.injEq, Value.string.injEq, Value.bool.injEq, List.map_cons, List.map_nil, forall_const, Nat.reduceLT, Nat.lt_add_one, imp_self, true_and, and_true, and_self, ob_some, get_mk, lk_cons, ↓reduceIte, Nat.reduceEqDiff, ne_eq, not_true_eq_false, not_false_eq_true, Nat.one_ne_zero, Nat.zero_ne_one, Nat.succ_ne_self, Nat.reduceAdd, Bool.false_eq_true, false_implies, implies_true, reduceCtorEq, slB]
    repeat' (first | rfl | apply And.intro)
  have y0 : ((0 : Nat) : Int) = 0 := rfl
  have y1 : ((1 : Nat) : Int) = 1 := rfl
  have y2 : ((2 : Nat) : Int) = 2 := rfl
  have s0 : seq I0 I0 = true := seq_self _
  have s1 : seq I1 I1 = true := seq_self _
  have s2 : seq I2 I2 = true := seq_self _
  have d0 : decide ((v0 : Int) = v0) = true := decide_eq_true rfl
  have d1 : decide ((v1 : Int) = v1) = true := decide_eq_true rfl
  have d2 : decide ((v2 : Int) = v2) = true := decide_eq_true rfl
  intro i hi
  rcases (show i = 0 ∨ i = 1 ∨ i = 2 by omega) with rfl | rfl | rfl
  · simp -implicitDefEqProofs only [go_sem, ↓reduceIte, Nat.reduceEqDiff, Nat.reduceAdd, Nat.reduceMul, Nat.reduceLT, Nat.reduceLeDiff, Nat.reduceSub, Int.reduceToNat, Int.reduceLE, Int.reduceLT, reduceCtorEq, Int.reduceEq, Int.reduceGT, Int.reduceGE, Int.reduceNeg, y0, y1, s0, s1, s2, d0, d1, d2, h03, h13, h23, w01, w12, wv0, wv1, wv2, wS, wF, List.isEmpty_cons, Bool.false_eq_true, if_false]
    refine at_call tSRead (sreadS (q := 20) (i := 3) (a := 18) (b := 16) (c := 19) (d := d4) (bs := 1) (r := 13) (slot := 0) (by decide) (by decide) (by rfl) ⟨by rfl, by rfl, by rfl, by rfl, by decide⟩ (by decide) P4.ok (by rw [P4.len]; decide) rfl) ?_
    by_cases kj : k ≠ 0
    · rw [ra kj]
      unfold rV
      have kk : k = 1 := by omega
      subst kk
      have g1 : decide ((v0 : Int) = v2) = true ∨ decide ((v0 : Int) = v2) = false := by cases decide ((v0 : Int) = v2) <;> simp
      rcases g1 with g1 | g1
      · simp -implicitDefEqProofs only [go_sem, ↓reduceIte, Nat.reduceEqDiff, Nat.reduceAdd, Nat.reduceMul, Nat.reduceLT, Nat.reduceLeDiff, Nat.reduceSub, Int.reduceToNat, Int.reduceLE, Int.reduceLT, reduceCtorEq, Int.reduceEq, Int.reduceGT, Int.reduceGE, Int.reduceNeg, g1, y0, y1, s0, s1, s2, d0, d1, d2, h03, h13, h23, w01, w12, wv0, wv1, wv2, wS, wF, List.isEmpty_cons, Bool.false_eq_true, if_false]
        refine kLoop_mk 1 (by omega) (by omega) ?_
        refine sub_mk [] rfl rfl rfl ?_
        simp only [tmSub, hpSub, objSub, eqTm, eqHp, rn, lk, SV.ren, SV.renC, SV.renB, SV.renA, ren_ints, ren_strs, ren_pl, ren_svs, SV.v.injEq, Value.int.injEq, Body.ints.injEq, SV.ptr.injEq, SV.sl.injEq, Value.string.injEq, Value.bool.injEq, List.map_cons, List.map_nil, forall_const, Nat.reduceLT, Nat.lt_add_one, imp_self, true_and, and_true, and_self, ob_some, get_mk, lk_cons, ↓reduceIte, Nat.reduceEqDiff, ne_eq, not_true_eq_false, not_false_eq_true, Nat.one_ne_zero, Nat.zero_ne_one, Nat.succ_ne_self, Nat.reduceAdd, Bool.false_eq_true, false_implies, implies_true, reduceCtorEq, slB, devB]
        repeat' (first | rfl | apply And.intro)
      · simp -implicitDefEqProofs only [go_sem, ↓reduceIte, Nat.reduceEqDiff, Nat.reduceAdd, Nat.reduceMul, Nat.reduceLT, Nat.reduceLeDiff, Nat.reduceSub, Int.reduceToNat, Int.reduceLE, Int.reduceLT, reduceCtorEq, Int.reduceEq, Int.reduceGT, Int.reduceGE, Int.reduceNeg, g1, y0, y1, s0, s1, s2, d0, d1, d2, h03, h13, h23, w01, w12, wv0, wv1, wv2, wS, wF, List.isEmpty_cons, Bool.false_eq_true, if_false]
        refine kLoop_mk 1 (by omega) (by omega) ?_
        refine sub_mk [] rfl rfl rfl ?_
        simp only [tmSub, hpSub, objSub, eqTm, eqHp, rn, lk, SV.ren, SV.renC, SV.renB, SV.renA, ren_ints, ren_strs, ren_pl, ren_svs, SV.v.injEq, Value.int.injEq, Body.ints.injEq, SV.ptr.injEq, SV.sl.injEq, Value.string.injEq, Value.bool.injEq, List.map_cons, List.map_nil, forall_const, Nat.reduceLT, Nat.lt_add_one, imp_self, true_and, and_true, and_self, ob_some, get_mk, lk_cons, ↓reduceIte, Nat.reduceEqDiff, ne_eq, not_true_eq_false, not_false_eq_true, Nat.one_ne_zero, Nat.zero_ne_one, Nat.succ_ne_self, Nat.reduceAdd, Bool.false_eq_true, false_implies, implies_true, reduceCtorEq, slB, devB]
        repeat' (first | rfl | apply And.intro)
    have kk : k = 0 := by omega
    subst kk
    have rc' : (E = 0 ∧ srT 1 13 0 d4 = (v2, I2, 0)) ∨ (E ≠ 0 ∧ (srT 1 13 0 d4 = (v2, I2, 0) ∨ srT 1 13 0 d4 = (v0, I0, 0) ∨ srT 1 13 0 d4 = (0, ⟨#[]⟩, 5))) := rc
    have g1 : decide ((v0 : Int) = v2) = true ∨ decide ((v0 : Int) = v2) = false := by cases decide ((v0 : Int) = v2) <;> simp
    have g2 : decide ((v2 : Int) = v0) = true ∨ decide ((v2 : Int) = v0) = false := by cases decide ((v2 : Int) = v0) <;> simp
    have g3 : seq I0 I2 = true ∨ seq I0 I2 = false := by cases seq I0 I2 <;> simp
    rcases rc' with ⟨rE, rr⟩ | ⟨rE, rr | rr | rr⟩
    · have fE : decide (E = 0) = true := decide_eq_true rE
      rw [rr]
      unfold rV
      rcases g2 with g2 | g2
      · simp -implicitDefEqProofs only [go_sem, ↓reduceIte, Nat.reduceEqDiff, Nat.reduceAdd, Nat.reduceMul, Nat.reduceLT, Nat.reduceLeDiff, Nat.reduceSub, Int.reduceToNat, Int.reduceLE, Int.reduceLT, reduceCtorEq, Int.reduceEq, Int.reduceGT, Int.reduceGE, Int.reduceNeg, g2, fE, y0, y1, s0, s1, s2, d0, d1, d2, h03, h13, h23, w01, w12, wv0, wv1, wv2, wS, wF, List.isEmpty_cons, Bool.false_eq_true, if_false]
        refine kLoop_mk 1 (by omega) (by omega) ?_
        refine sub_mk [] rfl rfl rfl ?_
        simp only [tmSub, hpSub, objSub, eqTm, eqHp, rn, lk, SV.ren, SV.renC, SV.renB, SV.renA, ren_ints, ren_strs, ren_pl, ren_svs, SV.v.injEq, Value.int.injEq, Body.ints.injEq, SV.ptr.injEq, SV.sl.injEq, Value.string.injEq, Value.bool.injEq, List.map_cons, List.map_nil, forall_const, Nat.reduceLT, Nat.lt_add_one, imp_self, true_and, and_true, and_self, ob_some, get_mk, lk_cons, ↓reduceIte, Nat.reduceEqDiff, ne_eq, not_true_eq_false, not_false_eq_true, Nat.one_ne_zero, Nat.zero_ne_one, Nat.succ_ne_self, Nat.reduceAdd, Bool.false_eq_true, false_implies, implies_true, reduceCtorEq, slB, devB]
        repeat' (first | rfl | apply And.intro)
      · simp -implicitDefEqProofs only [go_sem, ↓reduceIte, Nat.reduceEqDiff, Nat.reduceAdd, Nat.reduceMul, Nat.reduceLT, Nat.reduceLeDiff, Nat.reduceSub, Int.reduceToNat, Int.reduceLE, Int.reduceLT, reduceCtorEq, Int.reduceEq, Int.reduceGT, Int.reduceGE, Int.reduceNeg, g2, fE, y0, y1, s0, s1, s2, d0, d1, d2, h03, h13, h23, w01, w12, wv0, wv1, wv2, wS, wF, List.isEmpty_cons, Bool.false_eq_true, if_false]
        refine kLoop_mk 1 (by omega) (by omega) ?_
        refine sub_mk [] rfl rfl rfl ?_
        simp only [tmSub, hpSub, objSub, eqTm, eqHp, rn, lk, SV.ren, SV.renC, SV.renB, SV.renA, ren_ints, ren_strs, ren_pl, ren_svs, SV.v.injEq, Value.int.injEq, Body.ints.injEq, SV.ptr.injEq, SV.sl.injEq, Value.string.injEq, Value.bool.injEq, List.map_cons, List.map_nil, forall_const, Nat.reduceLT, Nat.lt_add_one, imp_self, true_and, and_true, and_self, ob_some, get_mk, lk_cons, ↓reduceIte, Nat.reduceEqDiff, ne_eq, not_true_eq_false, not_false_eq_true, Nat.one_ne_zero, Nat.zero_ne_one, Nat.succ_ne_self, Nat.reduceAdd, Bool.false_eq_true, false_implies, implies_true, reduceCtorEq, slB, devB]
        repeat' (first | rfl | apply And.intro)
    · have fE : decide (E = 0) = false := decide_eq_false rE
      rw [rr]
      unfold rV
      rcases g2 with g2 | g2
      · simp -implicitDefEqProofs only [go_sem, ↓reduceIte, Nat.reduceEqDiff, Nat.reduceAdd, Nat.reduceMul, Nat.reduceLT, Nat.reduceLeDiff, Nat.reduceSub, Int.reduceToNat, Int.reduceLE, Int.reduceLT, reduceCtorEq, Int.reduceEq, Int.reduceGT, Int.reduceGE, Int.reduceNeg, g2, fE, y0, y1, s0, s1, s2, d0, d1, d2, h03, h13, h23, w01, w12, wv0, wv1, wv2, wS, wF, List.isEmpty_cons, Bool.false_eq_true, if_false]
        refine kLoop_mk 1 (by omega) (by omega) ?_
        refine sub_mk [] rfl rfl rfl ?_
        simp only [tmSub, hpSub, objSub, eqTm, eqHp, rn, lk, SV.ren, SV.renC, SV.renB, SV.renA, ren_ints, ren_strs, ren_pl, ren_svs, SV.v.injEq, Value.int.injEq, Body.ints.injEq, SV.ptr.injEq, SV.sl.injEq, Value.string.injEq, Value.bool.injEq, List.map_cons, List.map_nil, forall_const, Nat.reduceLT, Nat.lt_add_one, imp_self, true_and, and_true, and_self, ob_some, get_mk, lk_cons, ↓reduceIte, Nat.reduceEqDiff, ne_eq, not_true_eq_false, not_false_eq_true, Nat.one_ne_zero, Nat.zero_ne_one, Nat.succ_ne_self, Nat.reduceAdd, Bool.false_eq_true, false_implies, implies_true, reduceCtorEq, slB, devB]
        repeat' (first | rfl | apply And.intro)
      · simp -implicitDefEqProofs only [go_sem, ↓reduceIte, Nat.reduceEqDiff, Nat.reduceAdd, Nat.reduceMul, Nat.reduceLT, Nat.reduceLeDiff, Nat.reduceSub, Int.reduceToNat, Int.reduceLE, Int.reduceLT, reduceCtorEq, Int.reduceEq, Int.reduceGT, Int.reduceGE, Int.reduceNeg, g2, fE, y0, y1, s0, s1, s2, d0, d1, d2, h03, h13, h23, w01, w12, wv0, wv1, wv2, wS, wF, List.isEmpty_cons, Bool.false_eq_true, if_false]
        refine kLoop_mk 1 (by omega) (by omega) ?_
        refine sub_mk [] rfl rfl rfl ?_
        simp only [tmSub, hpSub, objSub, eqTm, eqHp, rn, lk, SV.ren, SV.renC, SV.renB, SV.renA, ren_ints, ren_strs, ren_pl, ren_svs, SV.v.injEq, Value.int.injEq, Body.ints.injEq, SV.ptr.injEq, SV.sl.injEq, Value.string.injEq, Value.bool.injEq, List.map_cons, List.map_nil, forall_const, Nat.reduceLT, Nat.lt_add_one, imp_self, true_and, and_true, and_self, ob_some, get_mk, lk_cons, ↓reduceIte, Nat.reduceEqDiff, ne_eq, not_true_eq_false, not_false_eq_true, Nat.one_ne_zero, Nat.zero_ne_one, Nat.succ_ne_self, Nat.reduceAdd, Bool.false_eq_true, false_implies, implies_true, reduceCtorEq, slB, devB]
        repeat' (first | rfl | apply And.intro)
    · have fE : decide (E = 0) = false := decide_eq_false rE
      rw [rr]
      unfold rV
      rcases g1 with g1 | g1
      · rcases g3 with g3 | g3
        · simp -implicitDefEqProofs only [go_sem, ↓reduceIte, Nat.reduceEqDiff, Nat.reduceAdd, Nat.reduceMul, Nat.reduceLT, Nat.reduceLeDiff, Nat.reduceSub, Int.reduceToNat, Int.reduceLE, Int.reduceLT, reduceCtorEq, Int.reduceEq, Int.reduceGT, Int.reduceGE, Int.reduceNeg, g1, g3, fE, y0, y1, s0, s1, s2, d0, d1, d2, h03, h13, h23, w01, w12, wv0, wv1, wv2, wS, wF, List.isEmpty_cons, Bool.false_eq_true, if_false]
          refine kLoop_mk 1 (by omega) (by omega) ?_
          refine sub_mk [] rfl rfl rfl ?_
          simp only [tmSub, hpSub, objSub, eqTm, eqHp, rn, lk, SV.ren, SV.renC, SV.renB, SV.renA, ren_ints, ren_strs, ren_pl, ren_svs, SV.v.injEq, Value.int.injEq, Body.ints.injEq, SV.ptr.injEq, SV.sl.injEq, Value.string.injEq, Value.bool.injEq, List.map_cons, List.map_nil, forall_const, Nat.reduceLT, Nat.lt_add_one, imp_self, true_and, and_true, and_self, ob_some, get_mk, lk_cons, ↓reduceIte, Nat.reduceEqDiff, ne_eq, not_true_eq_false, not_false_eq_true, Nat.one_ne_zero, Nat.zero_ne_one, Nat.succ_ne_self, Nat.reduceAdd, Bool.false_eq_true, false_implies, implies_true, reduceCtorEq, slB, devB]
          repeat' (first | rfl | apply And.intro)
        · simp -implicitDefEqProofs only [go_sem, ↓reduceIte, Nat.reduceEqDiff, Nat.reduceAdd, Nat.reduceMul, Nat.reduceLT, Nat.reduceLeDiff, Nat.reduceSub, Int.reduceToNat, Int.reduceLE, Int.reduceLT, reduceCtorEq, Int.reduceEq, Int.reduceGT, Int.reduceGE, Int.reduceNeg, g1, g3, fE, y0, y1, s0, s1, s2, d0, d1, d2, h03, h13, h23, w01, w12, wv0, wv1, wv2, wS, wF, List.isEmpty_cons, Bool.false_eq_true, if_false]
          refine kLoop_mk 1 (by omega) (by omega) ?_
          refine sub_mk [] rfl rfl rfl ?_
          simp only [tmSub, hpSub, objSub, eqTm, eqHp, rn, lk, SV.ren, SV.renC, SV.renB, SV.renA, ren_ints, ren_strs, ren_pl, ren_svs, SV.v.injEq, Value.int.injEq, Body.ints.injEq, SV.ptr.injEq, SV.sl.injEq, Value.string.injEq, Value.bool.injEq, List.map_cons, List.map_nil, forall_const, Nat.reduceLT, Nat.lt_add_one, imp_self, true_and, and_true, and_self, ob_some, get_mk, lk_cons, ↓reduceIte, Nat.reduceEqDiff, ne_eq, not_true_eq_false, not_false_eq_true, Nat.one_ne_zero, Nat.zero_ne_one, Nat.succ_ne_self, Nat.reduceAdd, Bool.false_eq_true, false_implies, implies_true, reduceCtorEq, slB, devB]
          repeat' (first | rfl | apply And.intro)
      · simp -implicitDefEqProofs only [go_sem, ↓reduceIte, Nat.reduceEqDiff, Nat.reduceAdd, Nat.reduceMul, Nat.reduceLT, Nat.reduceLeDiff, Nat.reduceSub, Int.reduceToNat, Int.reduceLE, Int.reduceLT, reduceCtorEq, Int.reduceEq, Int.reduceGT, Int.reduceGE, Int.reduceNeg, g1, fE, y0, y1, s0, s1, s2, d0, d1, d2, h03, h13, h23, w01, w12, wv0, wv1, wv2, wS, wF, List.isEmpty_cons, Bool.false_eq_true, if_false]
        refine kLoop_mk 1 (by omega) (by omega) ?_
        refine sub_mk [] rfl rfl rfl ?_
        simp only [tmSub, hpSub, objSub, eqTm, eqHp, rn, lk, SV.ren, SV.renC, SV.renB, SV.renA, ren_ints, ren_strs, ren_pl, ren_svs, SV.v.injEq, Value.int.injEq, Body.ints.injEq, SV.ptr.injEq, SV.sl.injEq, Value.string.injEq, Value.bool.injEq, List.map_cons, List.map_nil, forall_const, Nat.reduceLT, Nat.lt_add_one, imp_self, true_and, and_true, and_self, ob_some, get_mk, lk_cons, ↓reduceIte, Nat.reduceEqDiff, ne_eq, not_true_eq_false, not_false_eq_true, Nat.one_ne_zero, Nat.zero_ne_one, Nat.succ_ne_self, Nat.reduceAdd, Bool.false_eq_true, false_implies, implies_true, reduceCtorEq, slB, devB]
        repeat' (first | rfl | apply And.intro)
    · have fE : decide (E = 0) = false := decide_eq_false rE
      rw [rr]
      unfold rV
      simp -implicitDefEqProofs only [go_sem, ↓reduceIte, Nat.reduceEqDiff, Nat.reduceAdd, Nat.reduceMul, Nat.reduceLT, Nat.reduceLeDiff, Nat.reduceSub, Int.reduceToNat, Int.reduceLE, Int.reduceLT, reduceCtorEq, Int.reduceEq, Int.reduceGT, Int.reduceGE, Int.reduceNeg, fE, y0, y1, s0, s1, s2, d0, d1, d2, h03, h13, h23, w01, w12, wv0, wv1, wv2, wS, wF, List.isEmpty_cons, Bool.false_eq_true, if_false]
      refine kLoop_mk 1 (by omega) (by omega) ?_
      refine sub_mk [] rfl rfl rfl ?_
      simp only [tmSub, hpSub, objSub, eqTm, eqHp, rn, lk, SV.ren, SV.renC, SV.renB, SV.renA, ren_ints, ren_strs, ren_pl, ren_svs, SV.v.injEq, Value.int.injEq, Body.ints.injEq, SV.ptr.injEq, SV.sl.injEq, Value.string.injEq, Value.bool.injEq, List.map_cons, List.map_nil, forall_const, Nat.reduceLT, Nat.lt_add_one, imp_self, true_and, and_true, and_self, ob_some, get_mk, lk_cons, ↓reduceIte, Nat.reduceEqDiff, ne_eq, not_true_eq_false, not_false_eq_true, Nat.one_ne_zero, Nat.zero_ne_one, Nat.succ_ne_self, Nat.reduceAdd, Bool.false_eq_true, false_implies, implies_true, reduceCtorEq, slB, devB]
      repeat' (first | rfl | apply And.intro)
  · simp -implicitDefEqProofs only [go_sem, ↓reduceIte, Nat.reduceEqDiff, Nat.reduceAdd, Nat.reduceMul, Nat.reduceLT, Nat.reduceLeDiff, Nat.reduceSub, Int.reduceToNat, Int.reduceLE, Int.reduceLT, reduceCtorEq, Int.reduceEq, Int.reduceGT, Int.reduceGE, Int.reduceNeg, y0, y1, s0, s1, s2, d0, d1, d2, h03, h13, h23, w01, w12, wv0, wv1, wv2, wS, wF, List.isEmpty_cons, Bool.false_eq_true, if_false]
    refine at_call tSRead (sreadS (q := 20) (i := 3) (a := 18) (b := 16) (c := 19) (d := d4) (bs := 1) (r := 13) (slot := 1) (by decide) (by decide) (by rfl) ⟨by rfl, by rfl, by rfl, by rfl, by decide⟩ (by decide) P4.ok (by rw [P4.len]; decide) rfl) ?_
    by_cases kj : k ≠ 1
    · rw [rb kj]
      unfold rV
      have kk : k = 0 := by omega
      subst kk
      have g1 : decide ((v1 : Int) = v2) = true ∨ decide ((v1 : Int) = v2) = false := by cases decide ((v1 : Int) = v2) <;> simp
      rcases g1 with g1 | g1
      · simp -implicitDefEqProofs only [go_sem, ↓reduceIte, Nat.reduceEqDiff, Nat.reduceAdd, Nat.reduceMul, Nat.reduceLT, Nat.reduceLeDiff, Nat.reduceSub, Int.reduceToNat, Int.reduceLE, Int.reduceLT, reduceCtorEq, Int.reduceEq, Int.reduceGT, Int.reduceGE, Int.reduceNeg, g1, y0, y1, s0, s1, s2, d0, d1, d2, h03, h13, h23, w01, w12, wv0, wv1, wv2, wS, wF, List.isEmpty_cons, Bool.false_eq_true, if_false]
        refine kLoop_mk 2 (by omega) (by omega) ?_
        refine sub_mk [] rfl rfl rfl ?_
        simp only [tmSub, hpSub, objSub, eqTm, eqHp, rn, lk, SV.ren, SV.renC, SV.renB, SV.renA, ren_ints, ren_strs, ren_pl, ren_svs, SV.v.injEq, Value.int.injEq, Body.ints.injEq, SV.ptr.injEq, SV.sl.injEq, Value.string.injEq, Value.bool.injEq, List.map_cons, List.map_nil, forall_const, Nat.reduceLT, Nat.lt_add_one, imp_self, true_and, and_true, and_self, ob_some, get_mk, lk_cons, ↓reduceIte, Nat.reduceEqDiff, ne_eq, not_true_eq_false, not_false_eq_true, Nat.one_ne_zero, Nat.zero_ne_one, Nat.succ_ne_self, Nat.reduceAdd, Bool.false_eq_true, false_implies, implies_true, reduceCtorEq, slB, devB]
        repeat' (first | rfl | apply And.intro)
      · simp -implicitDefEqProofs only [go_sem, ↓reduceIte, Nat.reduceEqDiff, Nat.reduceAdd, Nat.reduceMul, Nat.reduceLT, Nat.reduceLeDiff, Nat.reduceSub, Int.reduceToNat, Int.reduceLE, Int.reduceLT, reduceCtorEq, Int.reduceEq, Int.reduceGT, Int.reduceGE, Int.reduceNeg, g1, y0, y1, s0, s1, s2, d0, d1, d2, h03, h13, h23, w01, w12, wv0, wv1, wv2, wS, wF, List.isEmpty_cons, Bool.false_eq_true, if_false]
        refine kLoop_mk 2 (by omega) (by omega) ?_
        refine sub_mk [] rfl rfl rfl ?_
        simp only [tmSub, hpSub, objSub, eqTm, eqHp, rn, lk, SV.ren, SV.renC, SV.renB, SV.renA, ren_ints, ren_strs, ren_pl, ren_svs, SV.v.injEq, Value.int.injEq, Body.ints.injEq, SV.ptr.injEq, SV.sl.injEq, Value.string.injEq, Value.bool.injEq, List.map_cons, List.map_nil, forall_const, Nat.reduceLT, Nat.lt_add_one, imp_self, true_and, and_true, and_self, ob_some, get_mk, lk_cons, ↓reduceIte, Nat.reduceEqDiff, ne_eq, not_true_eq_false, not_false_eq_true, Nat.one_ne_zero, Nat.zero_ne_one, Nat.succ_ne_self, Nat.reduceAdd, Bool.false_eq_true, false_implies, implies_true, reduceCtorEq, slB, devB]
        repeat' (first | rfl | apply And.intro)
    have kk : k = 1 := by omega
    subst kk
    have rc' : (E = 0 ∧ srT 1 13 1 d4 = (v2, I2, 0)) ∨ (E ≠ 0 ∧ (srT 1 13 1 d4 = (v2, I2, 0) ∨ srT 1 13 1 d4 = (v1, I1, 0) ∨ srT 1 13 1 d4 = (0, ⟨#[]⟩, 5))) := rc
    have g1 : decide ((v1 : Int) = v2) = true ∨ decide ((v1 : Int) = v2) = false := by cases decide ((v1 : Int) = v2) <;> simp
    have g2 : decide ((v2 : Int) = v1) = true ∨ decide ((v2 : Int) = v1) = false := by cases decide ((v2 : Int) = v1) <;> simp
    have g3 : seq I1 I2 = true ∨ seq I1 I2 = false := by cases seq I1 I2 <;> simp
    rcases rc' with ⟨rE, rr⟩ | ⟨rE, rr | rr | rr⟩
    · have fE : decide (E = 0) = true := decide_eq_true rE
      rw [rr]
      unfold rV
      rcases g2 with g2 | g2
      · simp -implicitDefEqProofs only [go_sem, ↓reduceIte, Nat.reduceEqDiff, Nat.reduceAdd, Nat.reduceMul, Nat.reduceLT, Nat.reduceLeDiff, Nat.reduceSub, Int.reduceToNat, Int.reduceLE, Int.reduceLT, reduceCtorEq, Int.reduceEq, Int.reduceGT, Int.reduceGE, Int.reduceNeg, g2, fE, y0, y1, s0, s1, s2, d0, d1, d2, h03, h13, h23, w01, w12, wv0, wv1, wv2, wS, wF, List.isEmpty_cons, Bool.false_eq_true, if_false]
        refine kLoop_mk 2 (by omega) (by omega) ?_
        refine sub_mk [] rfl rfl rfl ?_
        simp only [tmSub, hpSub, objSub, eqTm, eqHp, rn, lk, SV.ren, SV.renC, SV.renB, SV.renA, ren_ints, ren_strs, ren_pl, ren_svs, SV.v.injEq, Value.int.injEq, Body.ints.injEq, SV.ptr.injEq, SV.sl.injEq, Value.string.injEq, Value.bool.injEq, List.map_cons, List.map_nil, forall_const, Nat.reduceLT, Nat.lt_add_one, imp_self, true_and, and_true, and_self, ob_some, get_mk, lk_cons, ↓reduceIte, Nat.reduceEqDiff, ne_eq, not_true_eq_false, not_false_eq_true, Nat.one_ne_zero, Nat.zero_ne_one, Nat.succ_ne_self, Nat.reduceAdd, Bool.false_eq_true, false_implies, implies_true, reduceCtorEq, slB, devB]
        repeat' (first | rfl | apply And.intro)
      · simp -implicitDefEqProofs only [go_sem, ↓reduceIte, Nat.reduceEqDiff, Nat.reduceAdd, Nat.reduceMul, Nat.reduceLT, Nat.reduceLeDiff, Nat.reduceSub, Int.reduceToNat, Int.reduceLE, Int.reduceLT, reduceCtorEq, Int.reduceEq, Int.reduceGT, Int.reduceGE, Int.reduceNeg, g2, fE, y0, y1, s0, s1, s2, d0, d1, d2, h03, h13, h23, w01, w12, wv0, wv1, wv2, wS, wF, List.isEmpty_cons, Bool.false_eq_true, if_false]
        refine kLoop_mk 2 (by omega) (by omega) ?_
        refine sub_mk [] rfl rfl rfl ?_
        simp only [tmSub, hpSub, objSub, eqTm, eqHp, rn, lk, SV.ren, SV.renC, SV.renB, SV.renA, ren_ints, ren_strs, ren_pl, ren_svs, SV.v.injEq, Value.int.injEq, Body.ints.injEq, SV.ptr.injEq, SV.sl.injEq, Value.string.injEq, Value.bool.injEq, List.map_cons, List.map_nil, forall_const, Nat.reduceLT, Nat.lt_add_one, imp_self, true_and, and_true, and_self, ob_some, get_mk, lk_cons, ↓reduceIte, Nat.reduceEqDiff, ne_eq, not_true_eq_false, not_false_eq_true, Nat.one_ne_zero, Nat.zero_ne_one, Nat.succ_ne_self, Nat.reduceAdd, Bool.false_eq_true, false_implies, implies_true, reduceCtorEq, slB, devB]
        repeat' (first | rfl | apply And.intro)
    · have fE : decide (E = 0) = false := decide_eq_false rE
      rw [rr]
      unfold rV
      rcases g2 with g2 | g2
      · simp -implicitDefEqProofs only [go_sem, ↓reduceIte, Nat.reduceEqDiff, Nat.reduceAdd, Nat.reduceMul, Nat.reduceLT, Nat.reduceLeDiff, Nat.reduceSub, Int.reduceToNat, Int.reduceLE, Int.reduceLT, reduceCtorEq, Int.reduceEq, Int.reduceGT, Int.reduceGE, Int.reduceNeg, g2, fE, y0, y1, s0, s1, s2, d0, d1, d2, h03, h13, h23, w01, w12, wv0, wv1, wv2, wS, wF, List.isEmpty_cons, Bool.false_eq_true, if_false]
        refine kLoop_mk 2 (by omega) (by omega) ?_
        refine sub_mk [] rfl rfl rfl ?_
        simp only [tmSub, hpSub, objSub, eqTm, eqHp, rn, lk, SV.ren, SV.renC, SV.renB, SV.renA, ren_ints, ren_strs, ren_pl, ren_svs, SV.v.injEq, Value.int.injEq, Body.ints.injEq, SV.ptr.injEq, SV.sl.injEq, Value.string.injEq, Value.bool.injEq, List.map_cons, List.map_nil, forall_const, Nat.reduceLT, Nat.lt_add_one, imp_self, true_and, and_true, and_self, ob_some, get_mk, lk_cons, ↓reduceIte, Nat.reduceEqDiff, ne_eq, not_true_eq_false, not_false_eq_true, Nat.one_ne_zero, Nat.zero_ne_one, Nat.succ_ne_self, Nat.reduceAdd, Bool.false_eq_true, false_implies, implies_true, reduceCtorEq, slB, devB]
        repeat' (first | rfl | apply And.intro)
      · simp -implicitDefEqProofs only [go_sem, ↓reduceIte, Nat.reduceEqDiff, Nat.reduceAdd, Nat.reduceMul, Nat.reduceLT, Nat.reduceLeDiff, Nat.reduceSub, Int.reduceToNat, Int.reduceLE, Int.reduceLT, reduceCtorEq, Int.reduceEq, Int.reduceGT, Int.reduceGE, Int.reduceNeg, g2, fE, y0, y1, s0, s1, s2, d0, d1, d2, h03, h13, h23, w01, w12, wv0, wv1, wv2, wS, wF, List.isEmpty_cons, Bool.false_eq_true, if_false]
        refine kLoop_mk 2 (by omega) (by omega) ?_
        refine sub_mk [] rfl rfl rfl ?_
        simp only [tmSub, hpSub, objSub, eqTm, eqHp, rn, lk, SV.ren, SV.renC, SV.renB, SV.renA, ren_ints, ren_strs, ren_pl, ren_svs, SV.v.injEq, Value.int.injEq, Body.ints.injEq, SV.ptr.injEq, SV.sl.injEq, Value.string.injEq, Value.bool.injEq, List.map_cons, List.map_nil, forall_const, Nat.reduceLT, Nat.lt_add_one, imp_self, true_and, and_true, and_self, ob_some, get_mk, lk_cons, ↓reduceIte, Nat.reduceEqDiff, ne_eq, not_true_eq_false, not_false_eq_true, Nat.one_ne_zero, Nat.zero_ne_one, Nat.succ_ne_self, Nat.reduceAdd, Bool.false_eq_true, false_implies, implies_true, reduceCtorEq, slB, devB]
        repeat' (first | rfl | apply And.intro)
    · have fE : decide (E = 0) = false := decide_eq_false rE
      rw [rr]
      unfold rV
      rcases g1 with g1 | g1
      · rcases g3 with g3 | g3
        · simp -implicitDefEqProofs only [go_sem, ↓reduceIte, Nat.reduceEqDiff, Nat.reduceAdd, Nat.reduceMul, Nat.reduceLT, Nat.reduceLeDiff, Nat.reduceSub, Int.reduceToNat, Int.reduceLE, Int.reduceLT, reduceCtorEq, Int.reduceEq, Int.reduceGT, Int.reduceGE, Int.reduceNeg, g1, g3, fE, y0, y1, s0, s1, s2, d0, d1, d2, h03, h13, h23, w01, w12, wv0, wv1, wv2, wS, wF, List.isEmpty_cons, Bool.false_eq_true, if_false]
          refine kLoop_mk 2 (by omega) (by omega) ?_
          refine sub_mk [] rfl rfl rfl ?_
          simp only [tmSub, hpSub, objSub, eqTm, eqHp, rn, lk, SV.ren, SV.renC, SV.renB, SV.renA, ren_ints, ren_strs, ren_pl, ren_svs, SV.v.injEq, Value.int.injEq, Body.ints.injEq, SV.ptr.injEq, SV.sl.injEq, Value.string.injEq, Value.bool.injEq, List.map_cons, List.map_nil, forall_const, Nat.reduceLT, Nat.lt_add_one, imp_self, true_and, and_true, and_self, ob_some, get_mk, lk_cons, ↓reduceIte, Nat.reduceEqDiff, ne_eq, not_true_eq_false, not_false_eq_true, Nat.one_ne_zero, Nat.zero_ne_one, Nat.succ_ne_self, Nat.reduceAdd, Bool.false_eq_true, false_implies, implies_true, reduceCtorEq, slB, devB]
          repeat' (first | rfl | apply And.intro)
        · simp -implicitDefEqProofs only [go_sem, ↓reduceIte, Nat.reduceEqDiff, Nat.reduceAdd, Nat.reduceMul, Nat.reduceLT, Nat.reduceLeDiff, Nat.reduceSub, Int.reduceToNat, Int.reduceLE, Int.reduceLT, reduceCtorEq, Int.reduceEq, Int.reduceGT, Int.reduceGE, Int.reduceNeg, g1, g3, fE, y0, y1, s0, s1, s2, d0, d1, d2, h03, h13, h23, w01, w12, wv0, wv1, wv2, wS, wF, List.isEmpty_cons, Bool.false_eq_true, if_false]
          refine kLoop_mk 2 (by omega) (by omega) ?_
          refine sub_mk [] rfl rfl rfl ?_
          simp only [tmSub, hpSub, objSub, eqTm, eqHp, rn, lk, SV.ren, SV.renC, SV.renB, SV.renA, ren_ints, ren_strs, ren_pl, ren_svs, SV.v.injEq, Value.int.injEq, Body.ints.injEq, SV.ptr.injEq, SV.sl.injEq, Value.string.injEq, Value.bool.injEq, List.map_cons, List.map_nil, forall_const, Nat.reduceLT, Nat.lt_add_one, imp_self, true_and, and_true, and_self, ob_some, get_mk, lk_cons, ↓reduceIte, Nat.reduceEqDiff, ne_eq, not_true_eq_false, not_false_eq_true, Nat.one_ne_zero, Nat.zero_ne_one, Nat.succ_ne_self, Nat.reduceAdd, Bool.false_eq_true, false_implies, implies_true, reduceCtorEq, slB, devB]
          repeat' (first | rfl | apply And.intro)
      · simp -implicitDefEqProofs only [go_sem, ↓reduceIte, Nat.reduceEqDiff, Nat.reduceAdd, Nat.reduceMul, Nat.reduceLT, Nat.reduceLeDiff, Nat.reduceSub, Int.reduceToNat, Int.reduceLE, Int.reduceLT, reduceCtorEq, Int.reduceEq, Int.reduceGT, Int.reduceGE, Int.reduceNeg, g1, fE, y0, y1, s0, s1, s2, d0, d1, d2, h03, h13, h23, w01, w12, wv0, wv1, wv2, wS, wF, List.isEmpty_cons, Bool.false_eq_true, if_false]
        refine kLoop_mk 2 (by omega) (by omega) ?_
        refine sub_mk [] rfl rfl rfl ?_
        simp only [tmSub, hpSub, objSub, eqTm, eqHp, rn, lk, SV.ren, SV.renC, SV.renB, SV.renA, ren_ints, ren_strs, ren_pl, ren_svs, SV.v.injEq, Value.int.injEq, Body.ints.injEq, SV.ptr.injEq, SV.sl.injEq, Value.string.injEq, Value.bool.injEq, List.map_cons, List.map_nil, forall_const, Nat.reduceLT, Nat.lt_add_one, imp_self, true_and, and_true, and_self, ob_some, get_mk, lk_cons, ↓reduceIte, Nat.reduceEqDiff, ne_eq, not_true_eq_false, not_false_eq_true, Nat.one_ne_zero, Nat.zero_ne_one, Nat.succ_ne_self, Nat.reduceAdd, Bool.false_eq_true, false_implies, implies_true, reduceCtorEq, slB, devB]
        repeat' (first | rfl | apply And.intro)
    · have fE : decide (E = 0) = false := decide_eq_false rE
      rw [rr]
      unfold rV
      simp -implicitDefEqProofs only [go_sem, ↓reduceIte, Nat.reduceEqDiff, Nat.reduceAdd, Nat.reduceMul, Nat.reduceLT, Nat.reduceLeDiff, Nat.reduceSub, Int.reduceToNat, Int.reduceLE, Int.reduceLT, reduceCtorEq, Int.reduceEq, Int.reduceGT, Int.reduceGE, Int.reduceNeg, fE, y0, y1, s0, s1, s2, d0, d1, d2, h03, h13, h23, w01, w12, wv0, wv1, wv2, wS, wF, List.isEmpty_cons, Bool.false_eq_true, if_false]
      refine kLoop_mk 2 (by omega) (by omega) ?_
      refine sub_mk [] rfl rfl rfl ?_
      simp only [tmSub, hpSub, objSub, eqTm, eqHp, rn, lk, SV.ren, SV.renC, SV.renB, SV.renA, ren_ints, ren_strs, ren_pl, ren_svs, SV.v.injEq, Value.int.injEq, Body.ints.injEq, SV.ptr.injEq, SV.sl.injEq, Value.string.injEq, Value.bool.injEq, List.map_cons, List.map_nil, forall_const, Nat.reduceLT, Nat.lt_add_one, imp_self, true_and, and_true, and_self, ob_some, get_mk, lk_cons, ↓reduceIte, Nat.reduceEqDiff, ne_eq, not_true_eq_false, not_false_eq_true, Nat.one_ne_zero, Nat.zero_ne_one, Nat.succ_ne_self, Nat.reduceAdd, Bool.false_eq_true, false_implies, implies_true, reduceCtorEq, slB, devB]
      repeat' (first | rfl | apply And.intro)
  · simp -implicitDefEqProofs only [go_sem, ↓reduceIte, Nat.reduceEqDiff, Nat.reduceAdd, Nat.reduceMul, Nat.reduceLT, Nat.reduceLeDiff, Nat.reduceSub, Int.reduceToNat, Int.reduceLE, Int.reduceLT, reduceCtorEq, Int.reduceEq, Int.reduceGT, Int.reduceGE, Int.reduceNeg, y2, y0, y1, s0, s1, s2, d0, d1, d2, h03, h13, h23, w01, w12, wv0, wv1, wv2, wS, wF, List.isEmpty_cons, Bool.false_eq_true, if_false]
    exact sub_val rfl (by decide) (by decide) rfl
end
end Go.Sx
/- Slots: what stands, and a fate, that came in. -/
set_option linter.unusedVariables false
set_option linter.unusedSimpArgs false
set_option maxRecDepth 100000
namespace Go.Sx
open Go.Proofs Go.ChangeShapes Go.WideShapes Go.ChangeAt Go.RowKit
variable {H : Type} {enc : TypeId × Value → H} {W : World}

theorem over_val {b0 : Nat} {v : Value} {d : DataW H} {ps : List MemPlace} (hval : Value.okWide Try.prog W .any b0 65 v) (h : DataW.Trod enc Try.prog W 0 (fun _ => true) true 65 v d ps) :
    ∃ (V0 V1 V2 S F : Nat) (X0 X1 X2 : ByteArray), v = .agg #[.int .u8 V0, .string X0, .int .u8 V1, .string X1, .int .u8 V2, .string X2, .int .u8 S, .int .u8 F] ∧ V0 < 256 ∧ V1 < 256 ∧ V2 < 256 ∧ S < 256 ∧ F < 256 := by
  obtain ⟨cs, rfl, hsz⟩ := okWide_struct Try.underlying65 hval
  obtain ⟨fuel, h⟩ := h
  obtain ⟨xs, n, rfl, hx, hl, hxl, hf⟩ := DataW.trod_struct Try.underlying65 (show DataW.trod enc Try.prog W 0 (fun _ => true) true fuel 65 cs.toList = some (d, ps) from h)
  have h0 := hf 0 { name := "Was", type := 63, offset := 0, embedded := false, tag := "", pkgPath := "", byteOffset := 0 } rfl
  have h1 := hf 1 { name := "Now", type := 23, offset := 4, embedded := false, tag := "", pkgPath := "", byteOffset := 48 } rfl
  have h2 := hf 2 { name := "Slot", type := 5, offset := 6, embedded := false, tag := "", pkgPath := "", byteOffset := 72 } rfl
  have h3 := hf 3 { name := "Fall", type := 5, offset := 7, embedded := false, tag := "", pkgPath := "", byteOffset := 73 } rfl
  have c5 : Try.prog.cellsOf 5 = 1 := by kernel_rfl
  have c23 : Try.prog.cellsOf 23 = 2 := by kernel_rfl
  have c63 : Try.prog.cellsOf 63 = 4 := by kernel_rfl
  have c65 : Try.prog.cellsOf 65 = 8 := by kernel_rfl
  rw [c65] at hl
  obtain ⟨cl, hcl⟩ : ∃ cl, cs.toList = cl := ⟨_, rfl⟩
  rw [hcl] at hl h0 h1 h2 h3
  match cl, hl with
  | [a, b, c, d', e, f, g, k], _ =>
    match xs, hxl with
    | [y0, y1, y2, y3], _ =>
      simp only [c5, c23, c63, List.drop_succ_cons, List.drop_zero, List.take_succ_cons, List.take_zero, List.getElem?_cons_succ, List.getElem?_cons_zero] at h0 h1 h2 h3
      obtain ⟨xs', n', rfl, hx', hl', hxl', hf'⟩ := DataW.trod_array Try.underlying63 h0
      have k0 := hf' 0 (by decide)
      have k1 := hf' 1 (by decide)
      match xs', hxl' with
      | [z0, z1], _ =>
        simp only [c23, Nat.zero_mul, Nat.one_mul, List.drop_succ_cons, List.drop_zero, List.take_succ_cons, List.take_zero, List.getElem?_cons_succ, List.getElem?_cons_zero] at k0 k1
        obtain ⟨V0, X0, e0, hV0⟩ := new_cells k0
        obtain ⟨V1, X1, e1, hV1⟩ := new_cells k1
        obtain ⟨V2, X2, e2, hV2⟩ := new_cells h1
        obtain ⟨S, e3, rfl, hS⟩ := DataW.trod_int Try.underlying5 h2
        obtain ⟨F, e4, rfl, hF⟩ := DataW.trod_int Try.underlying5 h3
        simp only [List.cons.injEq, and_true] at e0 e1 e2 e3 e4
        obtain ⟨rfl, rfl⟩ := e0
        obtain ⟨rfl, rfl⟩ := e1
        obtain ⟨rfl, rfl⟩ := e2
        subst e3; subst e4
        obtain ⟨S, rfl, hS2⟩ := u8_lt hS
        obtain ⟨F, rfl, hF2⟩ := u8_lt hF
        exact ⟨V0, V1, V2, S, F, X0, X1, X2, by cases cs; simp only at hcl; rw [hcl], hV0, hV1, hV2, hS2, hF2⟩
theorem fate_val {b0 : Nat} {v : Value} {d : DataW H} {ps : List MemPlace} (hval : Value.okWide Try.prog W .any b0 53 v) (h : DataW.Trod enc Try.prog W 0 (fun _ => true) true 53 v d ps) :
    ∃ (kv : Value) (l : Loc) (zs : List Int) (m : Nat), v = .agg #[kv] ∧ KV W l zs m kv := by
  obtain ⟨cs, rfl, hsz⟩ := okWide_struct Try.underlying53 hval
  obtain ⟨fuel, h⟩ := h
  obtain ⟨kv, n, y, e, hk⟩ := fate_cells (show DataW.trod enc Try.prog W 0 (fun _ => true) true fuel 53 cs.toList = some (d, ps) from h)
  obtain ⟨l, zs, m, hkv⟩ := in_kv hk
  exact ⟨kv, l, zs, m, by cases cs; simp only at e; rw [e], hkv⟩
theorem rel_argrow' {lfA : Nat → Nat → Loc} {lr : Nat → Loc} {o m z : Nat} {v : Value} (j : Nat) (h : slrel (lr j) o m z v) : slrel (argR lfA lr (1003 + 4 * j)) o m z v := by rw [argR_row]; exact h
end Go.Sx
