/- Delta: readers; a patcher. -/
import Derived.Test.YtmcilmfnnpfdjaaPack
import Derived.Test.YtmcilmfnnpfdjaaBld

set_option linter.unusedVariables false
set_option linter.unusedSimpArgs false
set_option maxRecDepth 100000
namespace Go.Sx
attribute [local go_sem ↓] bind_mk intsB_mk strsB_mk svB_mk fnVC ob_some vc_skip vc_exit vc_ret vc_seq vc_block kSeq_normal kSeq_exit kSeq_ret kBlock_normal kBlock_exit kBlock_ret vc_reg vc_regD vc_cond condK_true condK_false vc_loop kLoop_exit kLoop_ret kRoll_normal kRoll_exit kRoll_ret vcOps_nil vcOps_cons gd_bool gd_undef put_some put_none vcT_fin vcT_pure vcT_act vcT_acts vcT_stop stab_none stab_some stabM_nil stabM_cons stabO_ld stabO_ldn stabO_slP stabO_b2s fldOf_ai fldOf_agg fldOf_ait fldOf_aggt intsOf_nil intsOf_cons strsOf_nil strsOf_cons c_omap ob_if lk_nil lk_cons ev_t ev_k z_mov z_pick z_bin z_binB z_binP z_un z_r2s z_conv z_s2b z_b2s z_mkM z_luM z_upM plV_v plV_agg mpOf_mp mpOf_nil mpUp_mp asM_mp luV_ok luV_v z_allocT aggOf_mk z_boxT z_alloc z_bld z_bldI z_rowI z_rowS z_ld z_ldn z_st z_stn asN_ptr asN_fn z_nilck z_fld z_fadr z_idxA z_idxP z_idxS z_idxV z_slS z_slL z_slP z_mk z_lenS z_lenL z_app appC_ints appC_pl appC_sv appC_strs isS_strs loose_ints loose_pl loose_sv z_slM z_callv callvK_fn callvK_f callvK_yl vc_rangeF rfEnd_eq rfGo_none rfGo_ret rfGo_exit yGo_mk yEnd_n yEnd_r yEnd_e yRdy_mk yMid_n putPs_nil putPs_cons leaf_v leaf_ptr leaf_sl leaf_yl leaf_mp z_appS z_appST z_appZ z_cpyS z_mkfn reps_int reps_str z_rowV z_slnil nilK_zero z_cpy z_call asT_tup z_extT z_box boxOf_ai boxOf_agg boxOf_int boxOf_str boxOf_bool boxOf_ptr boxOf_sl sbin_int sbin_str sbinB_mk sbinP_nn sbinP_pn sbinP_np i_add i_sub i_mul i_quo i_rem i_and i_or i_xor i_andNot i_shl i_shr i_eql i_neq i_lss i_leq i_gtr i_geq st_add st_eql st_neq st_lss st_leq st_gtr st_geq bo_eql bo_neq pt_eql pt_neq un_neg un_xor un_not asI_mk asB_mk asS_mk asP_mk asSl_mk asBy_mk bnd_none bnd_some get_mk hput_mk hdel_mk kill_eq wrOf_eq rowOf_eq rsvs_0 rsvs_1 rsvs_2 rsvs_3 rsv_t rsv_c1 rsv_cn nt_v nt_ptr nt_sl nt_agg nt_ai get_ints get_strs get_pl get_sv getN_ints getN_sv set_ints set_strs set_sv setN_ints setN_sv part_ints part_strs part_sv cat_ints cat_strs cat_sv over_ints over_strs over_sv ones_ints ones_strs evs_nil evs_cons condK_eqt condK_eqf det_callP V_ns V_nn V_gs V_gn obC_mk fresh_ev freshT_ev freshR_ev setN_plagg setN_intsv setN_svai setN_svagg over_intsv set_pl setN_pl setN_plai getN_pl getN_strs part_pl cat_pl over_pl over_plints z_mm
attribute [local go_sem] initTm ne_eq not_true_eq_false not_false_eq_true true_and and_true List.length_cons List.length_nil Int.toNat_natCast Nat.add_zero Nat.zero_add Nat.mul_one List.getElem?_cons_zero List.drop_zero List.take_length List.take_succ_cons List.take_zero List.take_nil List.drop_succ_cons Option.map_some Nat.le_refl implies_true List.getElem?_cons_succ decide_true decide_false Bool.not_true Bool.not_false beq_self_eq_true Nat.succ_ne_self Nat.one_ne_zero Nat.zero_ne_one vk_mk hk_mk nk_mk tok_eq plsOf_map intsOf_map bodyOf_pl bodyOf_ints bodyOf_strs bodyOf_sv part_aggv part_agg part_ai part_int part_str part_bool part_sl part_ptr part_nil numsOf_map u_int u_str u_bool u_pnil u_sl u_ptr u_oci u_ocs evq_nil evq_cons fillS_nil fillS_cons u_ocb ones_pl cells_sv cells_ints cells_strs cells_pl smms_nil smms_cons smm_min smm_max plsOf_nil List.nil_append List.all_cons List.all_nil Bool.and_self Bool.true_and Bool.and_true zws_len zw_len zi_len List.set_cons_zero List.set_cons_succ List.flatMap_cons List.flatMap_nil List.append_nil
attribute [local go_sem_proc] Nat.reduceEqDiff Nat.reduceAdd Nat.reduceMul Nat.reduceLT Nat.reduceLeDiff Nat.reduceSub Int.reduceToNat Int.reduceLE Int.reduceLT reduceCtorEq Int.reduceEq Int.reduceGT Int.reduceGE Int.reduceNeg
attribute [local go_sem_proc ↓] reduceIte
section
open Go.Proofs
variable {H : Hp} {n : Nat} {x : Nat → Option SO}
theorem rdKS {f : Nat} {m : MFn} (t : trFn Try.prog f = some m) {k : Nat} {s : ByteArray} {e : Int} {i : Nat} (hm : ∀ x, fnVC CT m [.ptr 1 0] ⟨[(1, some (rdO s e))], x⟩ 2 fun v H' n' => Sub 2 ⟨[(0, .v (.int .i64 (num (rawT s e k) : Nat)))], ⟨[(1, some (rdO (rawS s e k) (rawE s e k)))], x⟩, 2⟩ ⟨[(0, v)], H', n'⟩)
    (hg : H.get i = some (rdO s e)) (hi : 0 < i ∧ i < 1000) :
    SpecAt Try.prog f [.ptr i 0] H n (.v (.int .i64 (num (rawT s e k) : Nat))) ⟨(i, some (rdO (rawS s e k) (rawE s e k))) :: H.l, H.x⟩ n := by
  have := lift (n := n) (okT.spec t (hm H.x)) [(1, i)] rfl rfl rfl (by omega) rfl rfl
    ⟨sub_wr rfl hi.1 hi.2 hg rfl, trivial⟩ (by simp [apartB, apart1, rn, lk]) (by simp [wrNZ, rn, lk]; omega) (by omega)
  exact this
theorem numOK7 {s : ByteArray} {e : Int} {k : Nat} (h : k ≤ 7) : numOK (rawT s e k) := .inl (Nat.le_trans rawT_size h)
theorem byteS {s : ByteArray} {e : Int} {i : Nat} (hg : H.get i = some (rdO s e)) (hi : 0 < i ∧ i < 1000) :
    SpecAt Try.prog nRByte [.ptr i 0] H n (.v (.int .i64 (num (rawT s e 1) : Nat))) ⟨(i, some (rdO (rawS s e 1) (rawE s e 1))) :: H.l, H.x⟩ n := rdKS tRByte (by
  intro x
  unfold mRByte
  simp -implicitDefEqProofs only [↓fnVC, initTm]
  simp -implicitDefEqProofs only [go_sem]
  refine at_call tRNumber (numSp (i := 1) (s := s) (e := e) (k := 1) (by rfl) (by decide) (by decide) (numOK7 (by decide))) ?_
  simp -implicitDefEqProofs only [go_sem]
  refine sub_mk [] rfl rfl rfl ?_
  simp only [tmSub, hpSub, objSub, eqTm, eqHp, rn, lk, SV.ren, SV.renC, SV.renB, SV.renA, ren_ints, ren_strs, ren_pl, ren_svs, SV.v.injEq, Value.int.injEq, Body.ints.injEq, SV.ptr.injEq, SV.sl.injEq, Value.string.injEq, Value.bool.injEq, List.map_cons, List.map_nil, forall_const, Nat.reduceLT, Nat.lt_add_one, imp_self, true_and, and_true, and_self, ob_some, get_mk, lk_cons, ↓reduceIte, Nat.reduceEqDiff, ne_eq, not_true_eq_false, not_false_eq_true, Nat.one_ne_zero, Nat.zero_ne_one, Nat.succ_ne_self, Nat.reduceAdd, Bool.false_eq_true, false_implies, implies_true, reduceCtorEq, rdO]) hg hi
theorem fourS {s : ByteArray} {e : Int} {i : Nat} (hg : H.get i = some (rdO s e)) (hi : 0 < i ∧ i < 1000) :
    SpecAt Try.prog nRFour [.ptr i 0] H n (.v (.int .i64 (num (rawT s e 4) : Nat))) ⟨(i, some (rdO (rawS s e 4) (rawE s e 4))) :: H.l, H.x⟩ n := rdKS tRFour (by
  intro x
  unfold mRFour
  simp -implicitDefEqProofs only [↓fnVC, initTm]
  simp -implicitDefEqProofs only [go_sem]
  refine at_call tRNumber (numSp (i := 1) (s := s) (e := e) (k := 4) (by rfl) (by decide) (by decide) (numOK7 (by decide))) ?_
  simp -implicitDefEqProofs only [go_sem]
  refine sub_mk [] rfl rfl rfl ?_
  simp only [tmSub, hpSub, objSub, eqTm, eqHp, rn, lk, SV.ren, SV.renC, SV.renB, SV.renA, ren_ints, ren_strs, ren_pl, ren_svs, SV.v.injEq, Value.int.injEq, Body.ints.injEq, SV.ptr.injEq, SV.sl.injEq, Value.string.injEq, Value.bool.injEq, List.map_cons, List.map_nil, forall_const, Nat.reduceLT, Nat.lt_add_one, imp_self, true_and, and_true, and_self, ob_some, get_mk, lk_cons, ↓reduceIte, Nat.reduceEqDiff, ne_eq, not_true_eq_false, not_false_eq_true, Nat.one_ne_zero, Nat.zero_ne_one, Nat.succ_ne_self, Nat.reduceAdd, Bool.false_eq_true, false_implies, implies_true, reduceCtorEq, rdO]) hg hi
theorem twoS {s : ByteArray} {e : Int} {i : Nat} (hg : H.get i = some (rdO s e)) (hi : 0 < i ∧ i < 1000) :
    SpecAt Try.prog nRTwo [.ptr i 0] H n (.v (.int .i64 (num (rawT s e 2) : Nat))) ⟨(i, some (rdO (rawS s e 2) (rawE s e 2))) :: H.l, H.x⟩ n := rdKS tRTwo (by
  intro x
  unfold mRTwo
  simp -implicitDefEqProofs only [↓fnVC, initTm]
  simp -implicitDefEqProofs only [go_sem]
  refine at_call tRNumber (numSp (i := 1) (s := s) (e := e) (k := 2) (by rfl) (by decide) (by decide) (numOK7 (by decide))) ?_
  simp -implicitDefEqProofs only [go_sem]
  refine sub_mk [] rfl rfl rfl ?_
  simp only [tmSub, hpSub, objSub, eqTm, eqHp, rn, lk, SV.ren, SV.renC, SV.renB, SV.renA, ren_ints, ren_strs, ren_pl, ren_svs, SV.v.injEq, Value.int.injEq, Body.ints.injEq, SV.ptr.injEq, SV.sl.injEq, Value.string.injEq, Value.bool.injEq, List.map_cons, List.map_nil, forall_const, Nat.reduceLT, Nat.lt_add_one, imp_self, true_and, and_true, and_self, ob_some, get_mk, lk_cons, ↓reduceIte, Nat.reduceEqDiff, ne_eq, not_true_eq_false, not_false_eq_true, Nat.one_ne_zero, Nat.zero_ne_one, Nat.succ_ne_self, Nat.reduceAdd, Bool.false_eq_true, false_implies, implies_true, reduceCtorEq, rdO]) hg hi
theorem num_lt' {t : ByteArray} (h : t.size ≤ 7) : num t < 72057594037927936 := by
  have := nvl_bound (l := nbs t) nbs_lt (j := (nbs t).length) (Nat.le_refl _)
  rw [List.take_length, nbs_len] at this
  refine Nat.lt_of_lt_of_le this (Nat.le_trans (Nat.pow_le_pow_right (by decide) h) (by decide))
theorem num_ltk {t : ByteArray} {k : Nat} (h : t.size ≤ k) : num t < 256 ^ k := by
  have := nvl_bound (l := nbs t) nbs_lt (j := (nbs t).length) (Nat.le_refl _)
  rw [List.take_length, nbs_len] at this
  exact Nat.lt_of_lt_of_le this (Nat.pow_le_pow_right (by decide) h)
theorem bts_app {a b : ByteArray} : bts (a ++ b) = bts a ++ bts b := by simp [bts]
theorem bts_bytes {a : ByteArray} : ∀ y ∈ bts a, 0 ≤ y ∧ y ≤ 255 := by
  intro y hy
  unfold bts at hy
  obtain ⟨b, _, rfl⟩ := List.mem_map.1 hy
  have := b.toNat_lt
  exact ⟨by omega, by omega⟩
theorem ba_nil {a : ByteArray} : (⟨#[]⟩ : ByteArray) ++ a = a := by apply ByteArray.ext; simp
theorem ba_zero {a : ByteArray} (h : a.size = 0) : a = ⟨#[]⟩ := by
  apply ByteArray.ext
  exact Array.eq_empty_of_size_eq_zero h
theorem sum1S {i : Nat} {s : ByteArray} (hr : rowAt H i (.strs []) = some (.strs [s])) (hs : s.size ≤ 1073741824) : SpecAt Try.prog 24 [.sl i 0 1 1] H n (.v (.string (sha (bts s)))) H n := by
  have hc : catb (([s].drop 0).take 1) = bts s := by simp [catb]
  have hk := sumS (n := n) (o := 0) (m := 1) hr (by show 0 + 1 ≤ 1; decide) (by decide) (by rw [hc, bts_len]; omega)
  rw [hc] at hk
  exact hk
theorem rsum1S {i : Nat} {s : ByteArray} (hr : rowAt H i (.strs []) = some (.strs [s])) (hs : s.size ≤ 1073741824) : SpecAt Try.prog 20 [.sl i 0 1 1] H n (.v (.string (sha (bts s)))) H n := by
  have hc : catb (([s].drop 0).take 1) = bts s := by simp [catb]
  have hk := rsumS (n := n) (o := 0) (m := 1) hr (by show 0 + 1 ≤ 1; decide) (by decide) (by rw [hc, bts_len]; omega)
  rw [hc] at hk
  exact hk
theorem ext0 {s : ByteArray} {a b c : Nat} (h : c ≤ a) : (s.extract 0 a).extract b c = s.extract b c := by
  apply ByteArray.ext
  simp only [ByteArray.data_extract, Array.extract_extract]
  congr 1 <;> omega

structure Pt where
  old : ByteArray
  wait : ByteArray
  size : Nat
  hash : ByteArray
  begun : Bool
  adds : Nat
  seen : Nat
  made : ByteArray
  e : Int
  closed : Bool
def patC (p : Pt) (b s : SV) : List SV := [.v (.string p.old), .v (.string p.wait), .v (.int .i64 p.size), .v (.string p.hash), .v (.bool p.begun), .v (.int .i64 p.adds), .v (.int .i64 p.seen), b, s, .v (.int .i64 p.e), .v (.bool p.closed)]
/-- Nothing was made yet. -/
def hE (p : Pt) (x : Nat → Option SO) : Hp := ⟨[(1, some ⟨true, .sv (patC p (.v (.pointer none)) (.sl 0 0 0 1))⟩), (2, some ⟨false, .mp (.shp 1 57 (some 11))⟩)], x⟩
/-- The row of what was made is object r. -/
def hN (p : Pt) (r : Nat) (x : Nat → Option SO) : Hp := ⟨[(1, some ⟨true, .sv (patC p (.ptr 1 7) (.sl r 0 p.made.size 1))⟩), (2, some ⟨false, .mp (.shp 1 57 (some 11))⟩), (r, some ⟨true, .ints .u8 (bts p.made)⟩), (r + 1, some ⟨false, .mp (.shp r 5 none)⟩)], x⟩
/-- The row of what was made is object r now, and was object k. -/
def hM (p : Pt) (r k : Nat) (x : Nat → Option SO) : Hp := ⟨[(1, some ⟨true, .sv (patC p (.ptr 1 7) (.sl r 0 p.made.size 1))⟩), (2, some ⟨false, .mp (.shp 1 57 (some 11))⟩), (r, some ⟨true, .ints .u8 (bts p.made)⟩), (r + 1, some ⟨false, .mp (.shp r 5 none)⟩), (k, none)], x⟩
def hdP (p : Pt) : Bool × Pt :=
  if p.wait.size < 72 then (false, p) else
    (true, { p with wait := p.wait.extract 72 p.wait.size, size := num (p.wait.extract 36 40), hash := p.wait.extract 40 72, begun := true, e := if 8192 < num (p.wait.extract 36 40) then 4 else if num (p.wait.extract 0 4) ≠ p.old.size ∨ p.wait.extract 4 36 ≠ sha (bts p.old) then 10 else p.e })
def cpP (p : Pt) (f k : Nat) : Pt :=
  if k = 0 ∨ p.old.size < f ∨ p.old.size < f + k then { p with wait := p.wait.extract 7 p.wait.size, e := 3 }
  else if p.size < p.made.size + k then { p with wait := p.wait.extract 7 p.wait.size, e := 4 }
  else { p with wait := p.wait.extract 7 p.wait.size, made := p.made ++ p.old.extract f (f + k) }
def adP (p : Pt) (k : Nat) : Pt :=
  if k = 0 then { p with wait := p.wait.extract 3 p.wait.size, e := 3 }
  else if p.size < p.made.size + k then { p with wait := p.wait.extract 3 p.wait.size, e := 4 }
  else { p with wait := p.wait.extract 3 p.wait.size, adds := k }
def tkP (p : Pt) : Bool × Pt :=
  if 0 < p.adds ∧ p.wait.size ≠ 0 then (true, { p with made := p.made ++ p.wait.extract 0 (min p.adds p.wait.size), wait := p.wait.extract (min p.adds p.wait.size) p.wait.size, adds := p.adds - min p.adds p.wait.size })
  else if 0 < p.adds ∨ p.wait.size = 0 then (false, p)
  else if p.begun = false then hdP p
  else if num (p.wait.extract 0 1) ≠ 1 ∧ num (p.wait.extract 0 1) ≠ 2 then (true, { p with e := 3 })
  else if num (p.wait.extract 0 1) = 1 then if p.wait.size < 7 then (false, p) else (true, cpP p (num (p.wait.extract 1 5)) (num (p.wait.extract 5 7)))
  else if p.wait.size < 3 then (false, p) else (true, adP p (num (p.wait.extract 1 3)))
structure Pt.ok (p : Pt) : Prop where
  ow : p.wait.size ≤ 16384
  os : p.seen ≤ 1073741824
  oz : p.size < 4294967296
  om : p.made.size + p.adds ≤ 8192
  oe : p.e = 0 → p.old.size ≤ 8192 ∧ p.size ≤ 8192 ∧ p.made.size + p.adds ≤ p.size
def tkH (p : Pt) (r : Nat) (x : Nat → Option SO) : Hp := if p.made.size = 0 then hE p x else hN p r x
def tkN (p : Pt) (r : Nat) : Nat := if p.made.size = 0 then r else r + 2
theorem tkH_E {p : Pt} {r : Nat} (h : p.made.size = 0) : tkH p r x = hE p x := if_pos h
theorem tkN_E {p : Pt} {r : Nat} (h : p.made.size = 0) : tkN p r = r := if_pos h
theorem tkH_N {p : Pt} {r : Nat} (h : ¬p.made.size = 0) : tkH p r x = hN p r x := if_neg h
theorem tkN_N {p : Pt} {r : Nat} (h : ¬p.made.size = 0) : tkN p r = r + 2 := if_neg h
end
section
/- Delta: the next thing is taken. -/
set_option linter.unusedVariables false
set_option linter.unusedSimpArgs false
set_option maxRecDepth 100000
open Go.Proofs
variable {H : Hp} {n : Nat} {x : Nat → Option SO}
theorem kind_num {s : ByteArray} (h : 0 < s.size) : (bts s).getD 0 0 = (num (s.extract 0 1) : Nat) := by
  have h1 : (s.extract 0 1).size = 1 := by rw [ByteArray.size_extract]; omega
  have h2 := be_num (k := 1) h1
  have h3 := bts_ext s 0 1
  rw [← h2, List.drop_zero] at h3
  have h4 := congrArg (fun l => l.getD 0 0) h3
  have h5 : num (s.extract 0 1) < 256 := num_ltk (k := 1) (by omega)
  simp [be, List.getD] at h4
  cases hb : bts s with
  | nil => rw [hb] at h4; simp at h4; rw [show (List.getD ([] : List Int) 0 0) = 0 from rfl]; omega
  | cons a l => rw [hb] at h4; simp at h4; show a = _; omega
theorem seq_emp {s : ByteArray} (h : s.size = 0) : seq s ⟨#[]⟩ = true := by rw [ba_zero h]; exact seq_self _
theorem seq_nemp {s : ByteArray} (h : ¬s.size = 0) : seq s ⟨#[]⟩ = false := seq_ne fun e => h (by rw [e]; rfl)
theorem takeE {p : Pt} (hp : p.ok) (he : p.e = 0) (hm : p.made.size = 0) :
    fnVC CT mDTake [.ptr 1 0] (hE p x) 3 fun v H' n' => Sub 3 ⟨[(0, .v (.bool (tkP p).1))], tkH (tkP p).2 3 x, tkN (tkP p).2 3⟩ ⟨[(0, v)], H', n'⟩ := by
  unfold mDTake hE patC
  simp -implicitDefEqProofs only [↓fnVC, initTm]
  simp -implicitDefEqProofs only [go_sem]
  have hw := hp.ow
  have hom := hp.om
  obtain ⟨ho, hz, hmz⟩ := hp.oe he
  by_cases c1 : 0 < p.adds
  · have a1 : decide ((p.adds : Int) > 0) = true := decide_eq_true (by omega)
    simp -implicitDefEqProofs only [go_sem, a1]
    by_cases c2 : p.wait.size = 0
    · have a2 : seq p.wait ⟨#[]⟩ = true := seq_emp c2
      simp -implicitDefEqProofs only [go_sem, a1, a2]
      have e1 : tkP p = (false, p) := by unfold tkP; rw [if_neg (fun h => h.2 c2), if_pos (.inl c1)]
      rw [e1]
      rw [tkH_E (by exact hm), tkN_E (by exact hm)]
      unfold hE patC
      refine sub_mk [] rfl rfl rfl ?_
      simp only [tmSub, hpSub, objSub, eqTm, eqHp, rn, lk, SV.ren, SV.renC, SV.renB, SV.renA, ren_ints, ren_strs, ren_pl, ren_svs, SV.v.injEq, Value.int.injEq, Body.ints.injEq, SV.ptr.injEq, SV.sl.injEq, Value.string.injEq, Value.bool.injEq, List.map_cons, List.map_nil, forall_const, Nat.reduceLT, Nat.lt_add_one, imp_self, true_and, and_true, and_self, ob_some, get_mk, lk_cons, ↓reduceIte, Nat.reduceEqDiff, ne_eq, not_true_eq_false, not_false_eq_true, Nat.one_ne_zero, Nat.zero_ne_one, Nat.succ_ne_self, Nat.reduceAdd, Bool.false_eq_true, false_implies, implies_true, reduceCtorEq]
      repeat' (first | rfl | apply And.intro)
    · have a2 : seq p.wait ⟨#[]⟩ = false := seq_nemp c2
      have mn : min (p.adds : Int) (p.wait.size : Int) = ((min p.adds p.wait.size : Nat) : Int) := by omega
      have mnz : min p.adds p.wait.size ≤ p.wait.size := Nat.min_le_right _ _
      have mn0 : 0 < min p.adds p.wait.size := by omega
      have mna : min p.adds p.wait.size ≤ p.adds := Nat.min_le_left _ _
      have e1 : tkP p = (true, { p with made := p.made ++ p.wait.extract 0 (min p.adds p.wait.size), wait := p.wait.extract (min p.adds p.wait.size) p.wait.size, adds := p.adds - min p.adds p.wait.size }) := by unfold tkP; rw [if_pos ⟨c1, c2⟩]
      rw [e1]
      clear e1
      generalize min p.adds p.wait.size = k at mn mnz mn0 mna ⊢
      simp -implicitDefEqProofs only [go_sem, a1, a2, mn]
      refine ⟨⟨by omega, by omega⟩, ?_⟩
      have hk : (p.wait.extract 0 k).size = k := by rw [ByteArray.size_extract]; omega
      refine in_call mixT tBWriteString ?_
      unfold mBWriteString
      simp -implicitDefEqProofs only [↓fnVC, initTm]
      simp -implicitDefEqProofs only [go_sem]
      refine at_ext (enters_mk Try.func54 rfl rfl) (ckF7 (i := 1) (j := 2) (by rfl) (by rfl) rfl) ?_
      simp -implicitDefEqProofs only [go_sem, hk]
      refine ⟨by omega, fun h => absurd rfl h, ?_⟩
      refine ⟨by omega, ?_⟩
      have wa : IntKind.i64.wrap ((p.adds : Int) - (k : Int)) = ((p.adds - k : Nat) : Int) := by rw [wrap_i64 (by omega) (by omega)]; omega
      simp -implicitDefEqProofs only [go_sem, wa]
      have hsz : (p.made ++ p.wait.extract 0 k).size = (p.wait.extract 0 k).size := by rw [ByteArray.size_append, hm, Nat.zero_add]
      rw [tkH_N (by show ¬(p.made ++ p.wait.extract 0 k).size = 0; omega), tkN_N (by show ¬(p.made ++ p.wait.extract 0 k).size = 0; omega)]
      unfold hN patC
      refine sub_mk [] rfl rfl rfl ?_
      simp only [tmSub, hpSub, objSub, eqTm, eqHp, rn, lk, SV.ren, SV.renC, SV.renB, SV.renA, ren_ints, ren_strs, ren_pl, ren_svs, SV.v.injEq, Value.int.injEq, Body.ints.injEq, SV.ptr.injEq, SV.sl.injEq, Value.string.injEq, Value.bool.injEq, List.map_cons, List.map_nil, forall_const, Nat.reduceLT, Nat.lt_add_one, imp_self, true_and, and_true, and_self, ob_some, get_mk, lk_cons, ↓reduceIte, Nat.reduceEqDiff, ne_eq, not_true_eq_false, not_false_eq_true, Nat.one_ne_zero, Nat.zero_ne_one, Nat.succ_ne_self, Nat.reduceAdd, Bool.false_eq_true, false_implies, implies_true, reduceCtorEq]
      rw [hsz, hk, show p.made ++ p.wait.extract 0 k = p.wait.extract 0 k by rw [ba_zero hm, ba_nil]]
      repeat' (first | rfl | apply And.intro)
  have a1 : decide ((p.adds : Int) > 0) = false := decide_eq_false (by omega)
  simp -implicitDefEqProofs only [go_sem, a1]
  by_cases c2 : p.wait.size = 0
  · have a2 : seq p.wait ⟨#[]⟩ = true := seq_emp c2
    simp -implicitDefEqProofs only [go_sem, a1, a2]
    have e1 : tkP p = (false, p) := by unfold tkP; rw [if_neg (fun h => h.2 c2), if_pos (.inr c2)]
    rw [e1]
    rw [tkH_E (by exact hm), tkN_E (by exact hm)]
    unfold hE patC
    refine sub_mk [] rfl rfl rfl ?_
    simp only [tmSub, hpSub, objSub, eqTm, eqHp, rn, lk, SV.ren, SV.renC, SV.renB, SV.renA, ren_ints, ren_strs, ren_pl, ren_svs, SV.v.injEq, Value.int.injEq, Body.ints.injEq, SV.ptr.injEq, SV.sl.injEq, Value.string.injEq, Value.bool.injEq, List.map_cons, List.map_nil, forall_const, Nat.reduceLT, Nat.lt_add_one, imp_self, true_and, and_true, and_self, ob_some, get_mk, lk_cons, ↓reduceIte, Nat.reduceEqDiff, ne_eq, not_true_eq_false, not_false_eq_true, Nat.one_ne_zero, Nat.zero_ne_one, Nat.succ_ne_self, Nat.reduceAdd, Bool.false_eq_true, false_implies, implies_true, reduceCtorEq]
    repeat' (first | rfl | apply And.intro)
  have a2 : seq p.wait ⟨#[]⟩ = false := seq_nemp c2
  simp -implicitDefEqProofs only [go_sem, a1, a2]
  by_cases c3 : p.begun = false
  · rw [c3]
    simp -implicitDefEqProofs only [go_sem, a1, a2]
    have e1 : tkP p = hdP p := by unfold tkP; rw [if_neg (fun h => c1 h.1), if_neg (by omega), if_pos c3]
    rw [e1]
    clear e1
    refine in_call mixT tDHead ?_
    unfold mDHead
    simp -implicitDefEqProofs only [↓fnVC, initTm]
    simp -implicitDefEqProofs only [go_sem]
    by_cases c4 : p.wait.size < 72
    · have a4 : decide ((p.wait.size : Int) < 72) = true := decide_eq_true (by omega)
      simp -implicitDefEqProofs only [go_sem, a4]
      rw [show hdP p = (false, p) from if_pos c4]
      rw [tkH_E (by exact hm), tkN_E (by exact hm)]
      unfold hE patC
      refine sub_mk [] rfl rfl rfl ?_
      simp only [tmSub, hpSub, objSub, eqTm, eqHp, rn, lk, SV.ren, SV.renC, SV.renB, SV.renA, ren_ints, ren_strs, ren_pl, ren_svs, SV.v.injEq, Value.int.injEq, Body.ints.injEq, SV.ptr.injEq, SV.sl.injEq, Value.string.injEq, Value.bool.injEq, List.map_cons, List.map_nil, forall_const, Nat.reduceLT, Nat.lt_add_one, imp_self, true_and, and_true, and_self, ob_some, get_mk, lk_cons, ↓reduceIte, Nat.reduceEqDiff, ne_eq, not_true_eq_false, not_false_eq_true, Nat.one_ne_zero, Nat.zero_ne_one, Nat.succ_ne_self, Nat.reduceAdd, Bool.false_eq_true, false_implies, implies_true, reduceCtorEq]
      rw [← c3]
      repeat' (first | rfl | apply And.intro)
    have a4 : decide ((p.wait.size : Int) < 72) = false := decide_eq_false (by omega)
    simp -implicitDefEqProofs only [go_sem, a4]
    refine in_call mixT tDCut ?_
    unfold mDCut
    simp -implicitDefEqProofs only [↓fnVC, initTm]
    simp -implicitDefEqProofs only [go_sem]
    refine ⟨by omega, ?_⟩
    simp -implicitDefEqProofs only [go_sem]
    refine ⟨by omega, ?_⟩
    simp -implicitDefEqProofs only [go_sem]
    refine at_call tPRead (preadS (by decide)) ?_
    simp -implicitDefEqProofs only [go_sem]
    have hs72 : (p.wait.extract 0 72).size = 72 := by rw [ByteArray.size_extract]; omega
    have f1 := rd_at (s := p.wait.extract 0 72) (k := 0) (w := 4) (by omega)
    have f2 := rd_at (s := p.wait.extract 0 72) (k := 4) (w := 32) (by omega)
    have f3 := rd_at (s := p.wait.extract 0 72) (k := 36) (w := 4) (by omega)
    have f4 := rd_at (s := p.wait.extract 0 72) (k := 40) (w := 32) (by omega)
    rw [ext_all] at f1
    refine at_call tRFour (fourS (i := 3) (s := p.wait.extract 0 72) (e := 0) (by rfl) (by decide)) ?_
    rw [f1.1, f1.2.1, f1.2.2]
    simp -implicitDefEqProofs only [go_sem]
    refine at_call tRHash (hashSp (i := 3) (s := (p.wait.extract 0 72).extract 4 (p.wait.extract 0 72).size) (e := 0) (by rfl) (by decide)) ?_
    rw [f2.1, f2.2.1, f2.2.2]
    simp -implicitDefEqProofs only [go_sem]
    refine at_call tRFour (fourS (i := 3) (s := (p.wait.extract 0 72).extract 36 (p.wait.extract 0 72).size) (e := 0) (by rfl) (by decide)) ?_
    rw [f3.1, f3.2.1, f3.2.2]
    simp -implicitDefEqProofs only [go_sem]
    refine at_call tRHash (hashSp (i := 3) (s := (p.wait.extract 0 72).extract 40 (p.wait.extract 0 72).size) (e := 0) (by rfl) (by decide)) ?_
    rw [f4.1, f4.2.1, f4.2.2]
    rw [ext0 (s := p.wait) (a := 72) (b := 0) (c := 4) (by decide), ext0 (s := p.wait) (a := 72) (b := 4) (c := 36) (by decide), ext0 (s := p.wait) (a := 72) (b := 36) (c := 40) (by decide), ext0 (s := p.wait) (a := 72) (b := 40) (c := 72) (by decide)]
    have e1 : hdP p = (true, { p with wait := p.wait.extract 72 p.wait.size, size := num (p.wait.extract 36 40), hash := p.wait.extract 40 72, begun := true, e := if 8192 < num (p.wait.extract 36 40) then 4 else if num (p.wait.extract 0 4) ≠ p.old.size ∨ p.wait.extract 4 36 ≠ sha (bts p.old) then 10 else p.e }) := by unfold hdP; rw [if_neg c4]
    rw [e1]
    clear e1 f1 f2 f3 f4
    have k2 : num (p.wait.extract 36 40) < 72057594037927936 := num_lt' (by rw [ByteArray.size_extract]; omega)
    have k3 : num (p.wait.extract 0 4) < 72057594037927936 := num_lt' (by rw [ByteArray.size_extract]; omega)
    generalize num (p.wait.extract 36 40) = sz at k2 ⊢
    generalize num (p.wait.extract 0 4) = oz at k3 ⊢
    simp -implicitDefEqProofs only [go_sem]
    by_cases c5 : 8192 < sz
    · have a5 : decide ((sz : Int) > 8192) = true := decide_eq_true (by omega)
      simp -implicitDefEqProofs only [go_sem, a5]
      rw [if_pos c5]
      rw [tkH_E (by exact hm), tkN_E (by exact hm)]
      unfold hE patC
      refine sub_mk [] rfl rfl rfl ?_
      simp only [tmSub, hpSub, objSub, eqTm, eqHp, rn, lk, SV.ren, SV.renC, SV.renB, SV.renA, ren_ints, ren_strs, ren_pl, ren_svs, SV.v.injEq, Value.int.injEq, Body.ints.injEq, SV.ptr.injEq, SV.sl.injEq, Value.string.injEq, Value.bool.injEq, List.map_cons, List.map_nil, forall_const, Nat.reduceLT, Nat.lt_add_one, imp_self, true_and, and_true, and_self, ob_some, get_mk, lk_cons, ↓reduceIte, Nat.reduceEqDiff, ne_eq, not_true_eq_false, not_false_eq_true, Nat.one_ne_zero, Nat.zero_ne_one, Nat.succ_ne_self, Nat.reduceAdd, Bool.false_eq_true, false_implies, implies_true, reduceCtorEq]
      repeat' (first | rfl | apply And.intro)
    have a5 : decide ((sz : Int) > 8192) = false := decide_eq_false (by omega)
    simp -implicitDefEqProofs only [go_sem, a5]
    rw [if_neg c5]
    by_cases c6 : oz = p.old.size
    · have a6 : decide ((oz : Int) = p.old.size) = true := decide_eq_true (by omega)
      simp -implicitDefEqProofs only [go_sem, a6]
      refine at_call t9 (sum1S (s := p.old) (by rfl) (by omega)) ?_
      by_cases c7 : p.wait.extract 4 36 = sha (bts p.old)
      · have a7 : seq (p.wait.extract 4 36) (sha (bts p.old)) = true := by rw [c7]; exact seq_self _
        simp -implicitDefEqProofs only [go_sem, a6, a7]
        rw [if_neg (fun h => h.elim (fun h => h c6) fun h => h c7)]
        rw [tkH_E (by exact hm), tkN_E (by exact hm)]
        unfold hE patC
        refine sub_mk [] rfl rfl rfl ?_
        simp only [tmSub, hpSub, objSub, eqTm, eqHp, rn, lk, SV.ren, SV.renC, SV.renB, SV.renA, ren_ints, ren_strs, ren_pl, ren_svs, SV.v.injEq, Value.int.injEq, Body.ints.injEq, SV.ptr.injEq, SV.sl.injEq, Value.string.injEq, Value.bool.injEq, List.map_cons, List.map_nil, forall_const, Nat.reduceLT, Nat.lt_add_one, imp_self, true_and, and_true, and_self, ob_some, get_mk, lk_cons, ↓reduceIte, Nat.reduceEqDiff, ne_eq, not_true_eq_false, not_false_eq_true, Nat.one_ne_zero, Nat.zero_ne_one, Nat.succ_ne_self, Nat.reduceAdd, Bool.false_eq_true, false_implies, implies_true, reduceCtorEq]
        repeat' (first | rfl | apply And.intro)
      · have a7 : seq (p.wait.extract 4 36) (sha (bts p.old)) = false := seq_ne c7
        simp -implicitDefEqProofs only [go_sem, a6, a7]
        rw [if_pos (.inr c7)]
        rw [tkH_E (by exact hm), tkN_E (by exact hm)]
        unfold hE patC
        refine sub_mk [] rfl rfl rfl ?_
        simp only [tmSub, hpSub, objSub, eqTm, eqHp, rn, lk, SV.ren, SV.renC, SV.renB, SV.renA, ren_ints, ren_strs, ren_pl, ren_svs, SV.v.injEq, Value.int.injEq, Body.ints.injEq, SV.ptr.injEq, SV.sl.injEq, Value.string.injEq, Value.bool.injEq, List.map_cons, List.map_nil, forall_const, Nat.reduceLT, Nat.lt_add_one, imp_self, true_and, and_true, and_self, ob_some, get_mk, lk_cons, ↓reduceIte, Nat.reduceEqDiff, ne_eq, not_true_eq_false, not_false_eq_true, Nat.one_ne_zero, Nat.zero_ne_one, Nat.succ_ne_self, Nat.reduceAdd, Bool.false_eq_true, false_implies, implies_true, reduceCtorEq]
        repeat' (first | rfl | apply And.intro)
    · have a6 : decide ((oz : Int) = p.old.size) = false := decide_eq_false (by omega)
      simp -implicitDefEqProofs only [go_sem, a6]
      rw [if_pos (.inl c6)]
      rw [tkH_E (by exact hm), tkN_E (by exact hm)]
      unfold hE patC
      refine sub_mk [] rfl rfl rfl ?_
      simp only [tmSub, hpSub, objSub, eqTm, eqHp, rn, lk, SV.ren, SV.renC, SV.renB, SV.renA, ren_ints, ren_strs, ren_pl, ren_svs, SV.v.injEq, Value.int.injEq, Body.ints.injEq, SV.ptr.injEq, SV.sl.injEq, Value.string.injEq, Value.bool.injEq, List.map_cons, List.map_nil, forall_const, Nat.reduceLT, Nat.lt_add_one, imp_self, true_and, and_true, and_self, ob_some, get_mk, lk_cons, ↓reduceIte, Nat.reduceEqDiff, ne_eq, not_true_eq_false, not_false_eq_true, Nat.one_ne_zero, Nat.zero_ne_one, Nat.succ_ne_self, Nat.reduceAdd, Bool.false_eq_true, false_implies, implies_true, reduceCtorEq]
      repeat' (first | rfl | apply And.intro)
  have a3 : p.begun = true := by simpa using c3
  have e1 : tkP p = if num (p.wait.extract 0 1) ≠ 1 ∧ num (p.wait.extract 0 1) ≠ 2 then (true, { p with e := 3 })
      else if num (p.wait.extract 0 1) = 1 then if p.wait.size < 7 then (false, p) else (true, cpP p (num (p.wait.extract 1 5)) (num (p.wait.extract 5 7)))
      else if p.wait.size < 3 then (false, p) else (true, adP p (num (p.wait.extract 1 3))) := by unfold tkP; rw [if_neg (fun h => c1 h.1), if_neg (by omega), if_neg c3]
  rw [e1]
  clear e1
  rw [a3]
  have k0 : (bts p.wait).getD 0 0 = (num (p.wait.extract 0 1) : Nat) := kind_num (by omega)
  have kb : num (p.wait.extract 0 1) < 256 := num_ltk (k := 1) (by rw [ByteArray.size_extract]; omega)
  generalize hkd : num (p.wait.extract 0 1) = kd at k0 kb ⊢
  simp -implicitDefEqProofs only [go_sem, a1, a2, k0]
  refine ⟨by omega, ?_⟩
  by_cases c4 : kd = 1
  · have b1 : decide ((kd : Int) = 1) = true := decide_eq_true (by omega)
    rw [if_neg (by omega), if_pos c4]
    simp -implicitDefEqProofs only [go_sem, a1, a2, k0, b1]
    by_cases c5 : p.wait.size < 7
    · have a5 : decide ((p.wait.size : Int) ≥ 7) = false := decide_eq_false (by omega)
      have b2 : decide ((kd : Int) = 2) = false := decide_eq_false (by omega)
      rw [if_pos c5]
      simp -implicitDefEqProofs only [go_sem, a1, a2, k0, b1, b2, a5]
      rw [tkH_E (by exact hm), tkN_E (by exact hm)]
      unfold hE patC
      refine sub_mk [] rfl rfl rfl ?_
      simp only [tmSub, hpSub, objSub, eqTm, eqHp, rn, lk, SV.ren, SV.renC, SV.renB, SV.renA, ren_ints, ren_strs, ren_pl, ren_svs, SV.v.injEq, Value.int.injEq, Body.ints.injEq, SV.ptr.injEq, SV.sl.injEq, Value.string.injEq, Value.bool.injEq, List.map_cons, List.map_nil, forall_const, Nat.reduceLT, Nat.lt_add_one, imp_self, true_and, and_true, and_self, ob_some, get_mk, lk_cons, ↓reduceIte, Nat.reduceEqDiff, ne_eq, not_true_eq_false, not_false_eq_true, Nat.one_ne_zero, Nat.zero_ne_one, Nat.succ_ne_self, Nat.reduceAdd, Bool.false_eq_true, false_implies, implies_true, reduceCtorEq]
      try rw [a3]
      repeat' (first | rfl | apply And.intro)
    have a5 : decide ((p.wait.size : Int) ≥ 7) = true := decide_eq_true (by omega)
    rw [if_neg c5]
    simp -implicitDefEqProofs only [go_sem, a1, a2, k0, b1, a5]
    refine in_call mixT tDCut ?_
    unfold mDCut
    simp -implicitDefEqProofs only [↓fnVC, initTm]
    simp -implicitDefEqProofs only [go_sem]
    refine ⟨by omega, ?_⟩
    simp -implicitDefEqProofs only [go_sem]
    refine ⟨by omega, ?_⟩
    simp -implicitDefEqProofs only [go_sem]
    refine at_call tPRead (preadS (by decide)) ?_
    simp -implicitDefEqProofs only [go_sem]
    have hs7 : (p.wait.extract 0 7).size = 7 := by rw [ByteArray.size_extract]; omega
    have f1 := rd_at (s := p.wait.extract 0 7) (k := 0) (w := 1) (by omega)
    have f2 := rd_at (s := p.wait.extract 0 7) (k := 1) (w := 4) (by omega)
    have f3 := rd_at (s := p.wait.extract 0 7) (k := 5) (w := 2) (by omega)
    rw [ext_all] at f1
    refine at_call tRByte (byteS (i := 3) (s := p.wait.extract 0 7) (e := 0) (by rfl) (by decide)) ?_
    rw [f1.1, f1.2.1, f1.2.2]
    simp -implicitDefEqProofs only [go_sem]
    refine at_call tRFour (fourS (i := 3) (s := (p.wait.extract 0 7).extract 1 (p.wait.extract 0 7).size) (e := 0) (by rfl) (by decide)) ?_
    rw [f2.1, f2.2.1, f2.2.2]
    simp -implicitDefEqProofs only [go_sem]
    refine at_call tRTwo (twoS (i := 3) (s := (p.wait.extract 0 7).extract 5 (p.wait.extract 0 7).size) (e := 0) (by rfl) (by decide)) ?_
    rw [f3.1, f3.2.1, f3.2.2]
    rw [ext0 (s := p.wait) (a := 7) (b := 1) (c := 5) (by decide), ext0 (s := p.wait) (a := 7) (b := 5) (c := 7) (by decide)]
    clear f1 f2 f3
    have k2 : num (p.wait.extract 1 5) < 72057594037927936 := num_lt' (by rw [ByteArray.size_extract]; omega)
    have k3 : num (p.wait.extract 5 7) < 65536 := num_ltk (k := 2) (by rw [ByteArray.size_extract]; omega)
    generalize num (p.wait.extract 1 5) = fr at k2 ⊢
    generalize num (p.wait.extract 5 7) = k at k3 ⊢
    simp -implicitDefEqProofs only [go_sem]
    by_cases c6 : k = 0
    · have a6 : decide ((k : Int) = 0) = true := decide_eq_true (by omega)
      rw [show cpP p fr k = { p with wait := p.wait.extract 7 p.wait.size, e := 3 } from if_pos (.inl c6)]
      simp -implicitDefEqProofs only [go_sem, a6]
      rw [tkH_E (by exact hm), tkN_E (by exact hm)]
      unfold hE patC
      refine sub_mk [] rfl rfl rfl ?_
      simp only [tmSub, hpSub, objSub, eqTm, eqHp, rn, lk, SV.ren, SV.renC, SV.renB, SV.renA, ren_ints, ren_strs, ren_pl, ren_svs, SV.v.injEq, Value.int.injEq, Body.ints.injEq, SV.ptr.injEq, SV.sl.injEq, Value.string.injEq, Value.bool.injEq, List.map_cons, List.map_nil, forall_const, Nat.reduceLT, Nat.lt_add_one, imp_self, true_and, and_true, and_self, ob_some, get_mk, lk_cons, ↓reduceIte, Nat.reduceEqDiff, ne_eq, not_true_eq_false, not_false_eq_true, Nat.one_ne_zero, Nat.zero_ne_one, Nat.succ_ne_self, Nat.reduceAdd, Bool.false_eq_true, false_implies, implies_true, reduceCtorEq]
      try rw [a3]
      repeat' (first | rfl | apply And.intro)
    have a6 : decide ((k : Int) = 0) = false := decide_eq_false (by omega)
    by_cases c7 : p.old.size < fr
    · have a7 : decide ((fr : Int) > p.old.size) = true := decide_eq_true (by omega)
      rw [show cpP p fr k = { p with wait := p.wait.extract 7 p.wait.size, e := 3 } from if_pos (.inr (.inl c7))]
      simp -implicitDefEqProofs only [go_sem, a6, a7]
      rw [tkH_E (by exact hm), tkN_E (by exact hm)]
      unfold hE patC
      refine sub_mk [] rfl rfl rfl ?_
      simp only [tmSub, hpSub, objSub, eqTm, eqHp, rn, lk, SV.ren, SV.renC, SV.renB, SV.renA, ren_ints, ren_strs, ren_pl, ren_svs, SV.v.injEq, Value.int.injEq, Body.ints.injEq, SV.ptr.injEq, SV.sl.injEq, Value.string.injEq, Value.bool.injEq, List.map_cons, List.map_nil, forall_const, Nat.reduceLT, Nat.lt_add_one, imp_self, true_and, and_true, and_self, ob_some, get_mk, lk_cons, ↓reduceIte, Nat.reduceEqDiff, ne_eq, not_true_eq_false, not_false_eq_true, Nat.one_ne_zero, Nat.zero_ne_one, Nat.succ_ne_self, Nat.reduceAdd, Bool.false_eq_true, false_implies, implies_true, reduceCtorEq]
      try rw [a3]
      repeat' (first | rfl | apply And.intro)
    have a7 : decide ((fr : Int) > p.old.size) = false := decide_eq_false (by omega)
    have w1 : IntKind.i64.wrap ((p.old.size : Int) - (fr : Int)) = (p.old.size : Int) - fr := wrap_i64 (by omega) (by omega)
    by_cases c8 : p.old.size < fr + k
    · have a8 : decide ((k : Int) > (p.old.size : Int) - fr) = true := decide_eq_true (by omega)
      rw [show cpP p fr k = { p with wait := p.wait.extract 7 p.wait.size, e := 3 } from if_pos (.inr (.inr c8))]
      simp -implicitDefEqProofs only [go_sem, a6, a7, w1, a8]
      rw [tkH_E (by exact hm), tkN_E (by exact hm)]
      unfold hE patC
      refine sub_mk [] rfl rfl rfl ?_
      simp only [tmSub, hpSub, objSub, eqTm, eqHp, rn, lk, SV.ren, SV.renC, SV.renB, SV.renA, ren_ints, ren_strs, ren_pl, ren_svs, SV.v.injEq, Value.int.injEq, Body.ints.injEq, SV.ptr.injEq, SV.sl.injEq, Value.string.injEq, Value.bool.injEq, List.map_cons, List.map_nil, forall_const, Nat.reduceLT, Nat.lt_add_one, imp_self, true_and, and_true, and_self, ob_some, get_mk, lk_cons, ↓reduceIte, Nat.reduceEqDiff, ne_eq, not_true_eq_false, not_false_eq_true, Nat.one_ne_zero, Nat.zero_ne_one, Nat.succ_ne_self, Nat.reduceAdd, Bool.false_eq_true, false_implies, implies_true, reduceCtorEq]
      try rw [a3]
      repeat' (first | rfl | apply And.intro)
    have a8 : decide ((k : Int) > (p.old.size : Int) - fr) = false := decide_eq_false (by omega)
    rw [show cpP p fr k = if p.size < p.made.size + k then { p with wait := p.wait.extract 7 p.wait.size, e := 4 } else { p with wait := p.wait.extract 7 p.wait.size, made := p.made ++ p.old.extract fr (fr + k) } from if_neg (by omega)]
    simp -implicitDefEqProofs only [go_sem, a6, a7, w1, a8]
    refine in_call mixT tDFits ?_
    unfold mDFits
    simp -implicitDefEqProofs only [↓fnVC, initTm]
    simp -implicitDefEqProofs only [go_sem]
    refine in_call mixT tBLen ?_
    unfold mBLen
    simp -implicitDefEqProofs only [↓fnVC, initTm]
    simp -implicitDefEqProofs only [go_sem]
    have w2 : IntKind.i64.wrap ((p.size : Int) - ((0 : Nat) : Int)) = (p.size : Int) - p.made.size := by rw [wrap_i64 (by omega) (by omega)]; omega
    by_cases c9 : p.size < p.made.size + k
    · have a9 : decide ((k : Int) > (p.size : Int) - p.made.size) = true := decide_eq_true (by omega)
      rw [if_pos c9]
      simp -implicitDefEqProofs only [go_sem, w2, a9]
      rw [tkH_E (by exact hm), tkN_E (by exact hm)]
      unfold hE patC
      refine sub_mk [] rfl rfl rfl ?_
      simp only [tmSub, hpSub, objSub, eqTm, eqHp, rn, lk, SV.ren, SV.renC, SV.renB, SV.renA, ren_ints, ren_strs, ren_pl, ren_svs, SV.v.injEq, Value.int.injEq, Body.ints.injEq, SV.ptr.injEq, SV.sl.injEq, Value.string.injEq, Value.bool.injEq, List.map_cons, List.map_nil, forall_const, Nat.reduceLT, Nat.lt_add_one, imp_self, true_and, and_true, and_self, ob_some, get_mk, lk_cons, ↓reduceIte, Nat.reduceEqDiff, ne_eq, not_true_eq_false, not_false_eq_true, Nat.one_ne_zero, Nat.zero_ne_one, Nat.succ_ne_self, Nat.reduceAdd, Bool.false_eq_true, false_implies, implies_true, reduceCtorEq]
      try rw [a3]
      repeat' (first | rfl | apply And.intro)
    have a9 : decide ((k : Int) > (p.size : Int) - p.made.size) = false := decide_eq_false (by omega)
    have ae : decide (p.e = 0) = true := decide_eq_true he
    rw [if_neg c9]
    have w3 : IntKind.i64.wrap ((fr : Int) + (k : Int)) = ((fr + k : Nat) : Int) := by rw [wrap_i64 (by omega) (by omega)]; omega
    simp -implicitDefEqProofs only [go_sem, w2, a9, ae, w3]
    refine ⟨by omega, ?_⟩
    have hk : (p.old.extract fr (fr + k)).size = k := by rw [ByteArray.size_extract]; omega
    refine in_call mixT tBWriteString ?_
    unfold mBWriteString
    simp -implicitDefEqProofs only [↓fnVC, initTm]
    simp -implicitDefEqProofs only [go_sem]
    refine at_ext (enters_mk Try.func54 rfl rfl) (ckF7 (i := 1) (j := 2) (by rfl) (by rfl) rfl) ?_
    simp -implicitDefEqProofs only [go_sem, hk]
    refine ⟨by omega, fun h => absurd rfl h, ?_⟩
    have hsz : (p.made ++ p.old.extract fr (fr + k)).size = (p.old.extract fr (fr + k)).size := by rw [ByteArray.size_append, hm, Nat.zero_add]
    rw [tkH_N (by show ¬(p.made ++ p.old.extract fr (fr + k)).size = 0; omega), tkN_N (by show ¬(p.made ++ p.old.extract fr (fr + k)).size = 0; omega)]
    unfold hN patC
    refine sub_mk [(3, 4), (4, 5)] rfl rfl rfl ?_
    simp only [tmSub, hpSub, objSub, eqTm, eqHp, rn, lk, SV.ren, SV.renC, SV.renB, SV.renA, ren_ints, ren_strs, ren_pl, ren_svs, SV.v.injEq, Value.int.injEq, Body.ints.injEq, SV.ptr.injEq, SV.sl.injEq, Value.string.injEq, Value.bool.injEq, List.map_cons, List.map_nil, forall_const, Nat.reduceLT, Nat.lt_add_one, imp_self, true_and, and_true, and_self, ob_some, get_mk, lk_cons, ↓reduceIte, Nat.reduceEqDiff, ne_eq, not_true_eq_false, not_false_eq_true, Nat.one_ne_zero, Nat.zero_ne_one, Nat.succ_ne_self, Nat.reduceAdd, Bool.false_eq_true, false_implies, implies_true, reduceCtorEq]
    rw [hsz, hk, show p.made ++ p.old.extract fr (fr + k) = p.old.extract fr (fr + k) by rw [ba_zero hm, ba_nil]]
    try rw [a3]
    repeat' (first | rfl | apply And.intro)
  have b1 : decide ((kd : Int) = 1) = false := decide_eq_false (by omega)
  by_cases c5 : kd = 2
  · have b2 : decide ((kd : Int) = 2) = true := decide_eq_true (by omega)
    rw [if_neg (by omega), if_neg c4]
    simp -implicitDefEqProofs only [go_sem, a1, a2, k0, b1, b2]
    by_cases c6 : p.wait.size < 3
    · have a5 : decide ((p.wait.size : Int) ≥ 3) = false := decide_eq_false (by omega)
      rw [if_pos c6]
      simp -implicitDefEqProofs only [go_sem, a1, a2, k0, b1, b2, a5]
      rw [tkH_E (by exact hm), tkN_E (by exact hm)]
      unfold hE patC
      refine sub_mk [] rfl rfl rfl ?_
      simp only [tmSub, hpSub, objSub, eqTm, eqHp, rn, lk, SV.ren, SV.renC, SV.renB, SV.renA, ren_ints, ren_strs, ren_pl, ren_svs, SV.v.injEq, Value.int.injEq, Body.ints.injEq, SV.ptr.injEq, SV.sl.injEq, Value.string.injEq, Value.bool.injEq, List.map_cons, List.map_nil, forall_const, Nat.reduceLT, Nat.lt_add_one, imp_self, true_and, and_true, and_self, ob_some, get_mk, lk_cons, ↓reduceIte, Nat.reduceEqDiff, ne_eq, not_true_eq_false, not_false_eq_true, Nat.one_ne_zero, Nat.zero_ne_one, Nat.succ_ne_self, Nat.reduceAdd, Bool.false_eq_true, false_implies, implies_true, reduceCtorEq]
      try rw [a3]
      repeat' (first | rfl | apply And.intro)
    have a5 : decide ((p.wait.size : Int) ≥ 3) = true := decide_eq_true (by omega)
    rw [if_neg c6]
    simp -implicitDefEqProofs only [go_sem, a1, a2, k0, b1, b2, a5]
    refine in_call mixT tDCut ?_
    unfold mDCut
    simp -implicitDefEqProofs only [↓fnVC, initTm]
    simp -implicitDefEqProofs only [go_sem]
    refine ⟨by omega, ?_⟩
    simp -implicitDefEqProofs only [go_sem]
    refine ⟨by omega, ?_⟩
    simp -implicitDefEqProofs only [go_sem]
    refine at_call tPRead (preadS (by decide)) ?_
    simp -implicitDefEqProofs only [go_sem]
    have hs3 : (p.wait.extract 0 3).size = 3 := by rw [ByteArray.size_extract]; omega
    have f1 := rd_at (s := p.wait.extract 0 3) (k := 0) (w := 1) (by omega)
    have f2 := rd_at (s := p.wait.extract 0 3) (k := 1) (w := 2) (by omega)
    rw [ext_all] at f1
    refine at_call tRByte (byteS (i := 3) (s := p.wait.extract 0 3) (e := 0) (by rfl) (by decide)) ?_
    rw [f1.1, f1.2.1, f1.2.2]
    simp -implicitDefEqProofs only [go_sem]
    refine at_call tRTwo (twoS (i := 3) (s := (p.wait.extract 0 3).extract 1 (p.wait.extract 0 3).size) (e := 0) (by rfl) (by decide)) ?_
    rw [f2.1, f2.2.1, f2.2.2]
    rw [ext0 (s := p.wait) (a := 3) (b := 1) (c := 3) (by decide)]
    clear f1 f2
    have k3 : num (p.wait.extract 1 3) < 65536 := num_ltk (k := 2) (by rw [ByteArray.size_extract]; omega)
    generalize num (p.wait.extract 1 3) = k at k3 ⊢
    simp -implicitDefEqProofs only [go_sem]
    by_cases c7 : k = 0
    · have a6 : decide ((k : Int) = 0) = true := decide_eq_true (by omega)
      rw [show adP p k = { p with wait := p.wait.extract 3 p.wait.size, e := 3 } from if_pos c7]
      simp -implicitDefEqProofs only [go_sem, a6]
      rw [tkH_E (by exact hm), tkN_E (by exact hm)]
      unfold hE patC
      refine sub_mk [] rfl rfl rfl ?_
      simp only [tmSub, hpSub, objSub, eqTm, eqHp, rn, lk, SV.ren, SV.renC, SV.renB, SV.renA, ren_ints, ren_strs, ren_pl, ren_svs, SV.v.injEq, Value.int.injEq, Body.ints.injEq, SV.ptr.injEq, SV.sl.injEq, Value.string.injEq, Value.bool.injEq, List.map_cons, List.map_nil, forall_const, Nat.reduceLT, Nat.lt_add_one, imp_self, true_and, and_true, and_self, ob_some, get_mk, lk_cons, ↓reduceIte, Nat.reduceEqDiff, ne_eq, not_true_eq_false, not_false_eq_true, Nat.one_ne_zero, Nat.zero_ne_one, Nat.succ_ne_self, Nat.reduceAdd, Bool.false_eq_true, false_implies, implies_true, reduceCtorEq]
      try rw [a3]
      repeat' (first | rfl | apply And.intro)
    have a6 : decide ((k : Int) = 0) = false := decide_eq_false (by omega)
    rw [show adP p k = if p.size < p.made.size + k then { p with wait := p.wait.extract 3 p.wait.size, e := 4 } else { p with wait := p.wait.extract 3 p.wait.size, adds := k } from if_neg c7]
    simp -implicitDefEqProofs only [go_sem, a6]
    refine in_call mixT tDFits ?_
    unfold mDFits
    simp -implicitDefEqProofs only [↓fnVC, initTm]
    simp -implicitDefEqProofs only [go_sem]
    refine in_call mixT tBLen ?_
    unfold mBLen
    simp -implicitDefEqProofs only [↓fnVC, initTm]
    simp -implicitDefEqProofs only [go_sem]
    have w2 : IntKind.i64.wrap ((p.size : Int) - ((0 : Nat) : Int)) = (p.size : Int) - p.made.size := by rw [wrap_i64 (by omega) (by omega)]; omega
    by_cases c9 : p.size < p.made.size + k
    · have a9 : decide ((k : Int) > (p.size : Int) - p.made.size) = true := decide_eq_true (by omega)
      rw [if_pos c9]
      simp -implicitDefEqProofs only [go_sem, w2, a9]
      rw [tkH_E (by exact hm), tkN_E (by exact hm)]
      unfold hE patC
      refine sub_mk [] rfl rfl rfl ?_
      simp only [tmSub, hpSub, objSub, eqTm, eqHp, rn, lk, SV.ren, SV.renC, SV.renB, SV.renA, ren_ints, ren_strs, ren_pl, ren_svs, SV.v.injEq, Value.int.injEq, Body.ints.injEq, SV.ptr.injEq, SV.sl.injEq, Value.string.injEq, Value.bool.injEq, List.map_cons, List.map_nil, forall_const, Nat.reduceLT, Nat.lt_add_one, imp_self, true_and, and_true, and_self, ob_some, get_mk, lk_cons, ↓reduceIte, Nat.reduceEqDiff, ne_eq, not_true_eq_false, not_false_eq_true, Nat.one_ne_zero, Nat.zero_ne_one, Nat.succ_ne_self, Nat.reduceAdd, Bool.false_eq_true, false_implies, implies_true, reduceCtorEq]
      try rw [a3]
      repeat' (first | rfl | apply And.intro)
    have a9 : decide ((k : Int) > (p.size : Int) - p.made.size) = false := decide_eq_false (by omega)
    have ae : decide (p.e = 0) = true := decide_eq_true he
    rw [if_neg c9]
    simp -implicitDefEqProofs only [go_sem, w2, a9, ae]
    rw [tkH_E (by exact hm), tkN_E (by exact hm)]
    unfold hE patC
    refine sub_mk [] rfl rfl rfl ?_
    simp only [tmSub, hpSub, objSub, eqTm, eqHp, rn, lk, SV.ren, SV.renC, SV.renB, SV.renA, ren_ints, ren_strs, ren_pl, ren_svs, SV.v.injEq, Value.int.injEq, Body.ints.injEq, SV.ptr.injEq, SV.sl.injEq, Value.string.injEq, Value.bool.injEq, List.map_cons, List.map_nil, forall_const, Nat.reduceLT, Nat.lt_add_one, imp_self, true_and, and_true, and_self, ob_some, get_mk, lk_cons, ↓reduceIte, Nat.reduceEqDiff, ne_eq, not_true_eq_false, not_false_eq_true, Nat.one_ne_zero, Nat.zero_ne_one, Nat.succ_ne_self, Nat.reduceAdd, Bool.false_eq_true, false_implies, implies_true, reduceCtorEq]
    try rw [a3]
    repeat' (first | rfl | apply And.intro)
  have b2 : decide ((kd : Int) = 2) = false := decide_eq_false (by omega)
  rw [if_pos ⟨c4, c5⟩]
  simp -implicitDefEqProofs only [go_sem, a1, a2, b1, b2, k0]
  rw [tkH_E (by exact hm), tkN_E (by exact hm)]
  unfold hE patC
  refine sub_mk [] rfl rfl rfl ?_
  simp only [tmSub, hpSub, objSub, eqTm, eqHp, rn, lk, SV.ren, SV.renC, SV.renB, SV.renA, ren_ints, ren_strs, ren_pl, ren_svs, SV.v.injEq, Value.int.injEq, Body.ints.injEq, SV.ptr.injEq, SV.sl.injEq, Value.string.injEq, Value.bool.injEq, List.map_cons, List.map_nil, forall_const, Nat.reduceLT, Nat.lt_add_one, imp_self, true_and, and_true, and_self, ob_some, get_mk, lk_cons, ↓reduceIte, Nat.reduceEqDiff, ne_eq, not_true_eq_false, not_false_eq_true, Nat.one_ne_zero, Nat.zero_ne_one, Nat.succ_ne_self, Nat.reduceAdd, Bool.false_eq_true, false_implies, implies_true, reduceCtorEq]
  try rw [a3]
  repeat' (first | rfl | apply And.intro)
end
section
/- Delta: the next thing is taken, where something was made. -/
set_option linter.unusedVariables false
set_option linter.unusedSimpArgs false
set_option maxRecDepth 100000
open Go.Proofs
variable {H : Hp} {n : Nat} {x : Nat → Option SO}
theorem takeN {p : Pt} (hp : p.ok) (he : p.e = 0) (hm : ¬p.made.size = 0) :
    fnVC CT mDTake [.ptr 1 0] (hN p 3 x) 5 fun v H' n' => Sub 5 ⟨[(0, .v (.bool (tkP p).1))], hM (tkP p).2 5 3 x, 7⟩ ⟨[(0, v)], H', n'⟩ := by
  unfold mDTake hN patC
  simp -implicitDefEqProofs only [↓fnVC, initTm]
  simp -implicitDefEqProofs only [go_sem]
  have hw := hp.ow
  have hom := hp.om
  obtain ⟨ho, hz, hmz⟩ := hp.oe he
  by_cases c1 : 0 < p.adds
  · have a1 : decide ((p.adds : Int) > 0) = true := decide_eq_true (by omega)
    simp -implicitDefEqProofs only [go_sem, a1]
    by_cases c2 : p.wait.size = 0
    · have a2 : seq p.wait ⟨#[]⟩ = true := seq_emp c2
      simp -implicitDefEqProofs only [go_sem, a1, a2]
      have e1 : tkP p = (false, p) := by unfold tkP; rw [if_neg (fun h => h.2 c2), if_pos (.inl c1)]
      rw [e1]
      unfold hM patC
      refine sub_mk [(5, 3), (6, 4)] rfl rfl rfl ?_
      simp only [tmSub, hpSub, objSub, eqTm, eqHp, rn, lk, SV.ren, SV.renC, SV.renB, SV.renA, ren_ints, ren_strs, ren_pl, ren_svs, SV.v.injEq, Value.int.injEq, Body.ints.injEq, SV.ptr.injEq, SV.sl.injEq, Value.string.injEq, Value.bool.injEq, List.map_cons, List.map_nil, forall_const, Nat.reduceLT, Nat.lt_add_one, imp_self, true_and, and_true, and_self, ob_some, get_mk, lk_cons, ↓reduceIte, Nat.reduceEqDiff, ne_eq, not_true_eq_false, not_false_eq_true, Nat.one_ne_zero, Nat.zero_ne_one, Nat.succ_ne_self, Nat.reduceAdd, Bool.false_eq_true, false_implies, implies_true, reduceCtorEq]
      repeat' (first | rfl | apply And.intro)
    · have a2 : seq p.wait ⟨#[]⟩ = false := seq_nemp c2
      have mn : min (p.adds : Int) (p.wait.size : Int) = ((min p.adds p.wait.size : Nat) : Int) := by omega
      have mnz : min p.adds p.wait.size ≤ p.wait.size := Nat.min_le_right _ _
      have mn0 : 0 < min p.adds p.wait.size := by omega
      have mna : min p.adds p.wait.size ≤ p.adds := Nat.min_le_left _ _
      have e1 : tkP p = (true, { p with made := p.made ++ p.wait.extract 0 (min p.adds p.wait.size), wait := p.wait.extract (min p.adds p.wait.size) p.wait.size, adds := p.adds - min p.adds p.wait.size }) := by unfold tkP; rw [if_pos ⟨c1, c2⟩]
      rw [e1]
      clear e1
      generalize min p.adds p.wait.size = k at mn mnz mn0 mna ⊢
      simp -implicitDefEqProofs only [go_sem, a1, a2, mn]
      refine ⟨⟨by omega, by omega⟩, ?_⟩
      have hk : (p.wait.extract 0 k).size = k := by rw [ByteArray.size_extract]; omega
      refine in_call mixT tBWriteString ?_
      unfold mBWriteString
      simp -implicitDefEqProofs only [↓fnVC, initTm]
      simp -implicitDefEqProofs only [go_sem]
      refine at_ext (enters_mk Try.func54 rfl rfl) (ckU7 (i := 1) (by rfl) rfl) ?_
      simp -implicitDefEqProofs only [go_sem, hk]
      refine ⟨by omega, fun _ => ⟨rfl, 4, ⟨false, .mp (.shp 3 5 none)⟩, rfl, rfl⟩, by rw [bts_len]; exact Nat.le_refl _, ?_⟩
      refine ⟨by omega, ?_⟩
      have wa : IntKind.i64.wrap ((p.adds : Int) - (k : Int)) = ((p.adds - k : Nat) : Int) := by rw [wrap_i64 (by omega) (by omega)]; omega
      simp -implicitDefEqProofs only [go_sem, wa]
      unfold hM patC
      refine sub_mk [(5, 5), (6, 6)] rfl rfl rfl ?_
      simp only [tmSub, hpSub, objSub, eqTm, eqHp, rn, lk, SV.ren, SV.renC, SV.renB, SV.renA, ren_ints, ren_strs, ren_pl, ren_svs, SV.v.injEq, Value.int.injEq, Body.ints.injEq, SV.ptr.injEq, SV.sl.injEq, Value.string.injEq, Value.bool.injEq, List.map_cons, List.map_nil, forall_const, Nat.reduceLT, Nat.lt_add_one, imp_self, true_and, and_true, and_self, ob_some, get_mk, lk_cons, ↓reduceIte, Nat.reduceEqDiff, ne_eq, not_true_eq_false, not_false_eq_true, Nat.one_ne_zero, Nat.zero_ne_one, Nat.succ_ne_self, Nat.reduceAdd, Bool.false_eq_true, false_implies, implies_true, reduceCtorEq]
      rw [ByteArray.size_append, hk, bts_app, List.take_of_length_le (by rw [bts_len]; exact Nat.le_refl _)]
      repeat' (first | rfl | apply And.intro)
  have a1 : decide ((p.adds : Int) > 0) = false := decide_eq_false (by omega)
  simp -implicitDefEqProofs only [go_sem, a1]
  by_cases c2 : p.wait.size = 0
  · have a2 : seq p.wait ⟨#[]⟩ = true := seq_emp c2
    simp -implicitDefEqProofs only [go_sem, a1, a2]
    have e1 : tkP p = (false, p) := by unfold tkP; rw [if_neg (fun h => h.2 c2), if_pos (.inr c2)]
    rw [e1]
    unfold hM patC
    refine sub_mk [(5, 3), (6, 4)] rfl rfl rfl ?_
    simp only [tmSub, hpSub, objSub, eqTm, eqHp, rn, lk, SV.ren, SV.renC, SV.renB, SV.renA, ren_ints, ren_strs, ren_pl, ren_svs, SV.v.injEq, Value.int.injEq, Body.ints.injEq, SV.ptr.injEq, SV.sl.injEq, Value.string.injEq, Value.bool.injEq, List.map_cons, List.map_nil, forall_const, Nat.reduceLT, Nat.lt_add_one, imp_self, true_and, and_true, and_self, ob_some, get_mk, lk_cons, ↓reduceIte, Nat.reduceEqDiff, ne_eq, not_true_eq_false, not_false_eq_true, Nat.one_ne_zero, Nat.zero_ne_one, Nat.succ_ne_self, Nat.reduceAdd, Bool.false_eq_true, false_implies, implies_true, reduceCtorEq]
    repeat' (first | rfl | apply And.intro)
  have a2 : seq p.wait ⟨#[]⟩ = false := seq_nemp c2
  simp -implicitDefEqProofs only [go_sem, a1, a2]
  by_cases c3 : p.begun = false
  · rw [c3]
    simp -implicitDefEqProofs only [go_sem, a1, a2]
    have e1 : tkP p = hdP p := by unfold tkP; rw [if_neg (fun h => c1 h.1), if_neg (by omega), if_pos c3]
    rw [e1]
    clear e1
    refine in_call mixT tDHead ?_
    unfold mDHead
    simp -implicitDefEqProofs only [↓fnVC, initTm]
    simp -implicitDefEqProofs only [go_sem]
    by_cases c4 : p.wait.size < 72
    · have a4 : decide ((p.wait.size : Int) < 72) = true := decide_eq_true (by omega)
      simp -implicitDefEqProofs only [go_sem, a4]
      rw [show hdP p = (false, p) from if_pos c4]
      unfold hM patC
      refine sub_mk [(5, 3), (6, 4)] rfl rfl rfl ?_
      simp only [tmSub, hpSub, objSub, eqTm, eqHp, rn, lk, SV.ren, SV.renC, SV.renB, SV.renA, ren_ints, ren_strs, ren_pl, ren_svs, SV.v.injEq, Value.int.injEq, Body.ints.injEq, SV.ptr.injEq, SV.sl.injEq, Value.string.injEq, Value.bool.injEq, List.map_cons, List.map_nil, forall_const, Nat.reduceLT, Nat.lt_add_one, imp_self, true_and, and_true, and_self, ob_some, get_mk, lk_cons, ↓reduceIte, Nat.reduceEqDiff, ne_eq, not_true_eq_false, not_false_eq_true, Nat.one_ne_zero, Nat.zero_ne_one, Nat.succ_ne_self, Nat.reduceAdd, Bool.false_eq_true, false_implies, implies_true, reduceCtorEq]
      rw [← c3]
      repeat' (first | rfl | apply And.intro)
    have a4 : decide ((p.wait.size : Int) < 72) = false := decide_eq_false (by omega)
    simp -implicitDefEqProofs only [go_sem, a4]
    refine in_call mixT tDCut ?_
    unfold mDCut
    simp -implicitDefEqProofs only [↓fnVC, initTm]
    simp -implicitDefEqProofs only [go_sem]
    refine ⟨by omega, ?_⟩
    simp -implicitDefEqProofs only [go_sem]
    refine ⟨by omega, ?_⟩
    simp -implicitDefEqProofs only [go_sem]
    refine at_call tPRead (preadS (by decide)) ?_
    simp -implicitDefEqProofs only [go_sem]
    have hs72 : (p.wait.extract 0 72).size = 72 := by rw [ByteArray.size_extract]; omega
    have f1 := rd_at (s := p.wait.extract 0 72) (k := 0) (w := 4) (by omega)
    have f2 := rd_at (s := p.wait.extract 0 72) (k := 4) (w := 32) (by omega)
    have f3 := rd_at (s := p.wait.extract 0 72) (k := 36) (w := 4) (by omega)
    have f4 := rd_at (s := p.wait.extract 0 72) (k := 40) (w := 32) (by omega)
    rw [ext_all] at f1
    refine at_call tRFour (fourS (i := 5) (s := p.wait.extract 0 72) (e := 0) (by rfl) (by decide)) ?_
    rw [f1.1, f1.2.1, f1.2.2]
    simp -implicitDefEqProofs only [go_sem]
    refine at_call tRHash (hashSp (i := 5) (s := (p.wait.extract 0 72).extract 4 (p.wait.extract 0 72).size) (e := 0) (by rfl) (by decide)) ?_
    rw [f2.1, f2.2.1, f2.2.2]
    simp -implicitDefEqProofs only [go_sem]
    refine at_call tRFour (fourS (i := 5) (s := (p.wait.extract 0 72).extract 36 (p.wait.extract 0 72).size) (e := 0) (by rfl) (by decide)) ?_
    rw [f3.1, f3.2.1, f3.2.2]
    simp -implicitDefEqProofs only [go_sem]
    refine at_call tRHash (hashSp (i := 5) (s := (p.wait.extract 0 72).extract 40 (p.wait.extract 0 72).size) (e := 0) (by rfl) (by decide)) ?_
    rw [f4.1, f4.2.1, f4.2.2]
    rw [ext0 (s := p.wait) (a := 72) (b := 0) (c := 4) (by decide), ext0 (s := p.wait) (a := 72) (b := 4) (c := 36) (by decide), ext0 (s := p.wait) (a := 72) (b := 36) (c := 40) (by decide), ext0 (s := p.wait) (a := 72) (b := 40) (c := 72) (by decide)]
    have e1 : hdP p = (true, { p with wait := p.wait.extract 72 p.wait.size, size := num (p.wait.extract 36 40), hash := p.wait.extract 40 72, begun := true, e := if 8192 < num (p.wait.extract 36 40) then 4 else if num (p.wait.extract 0 4) ≠ p.old.size ∨ p.wait.extract 4 36 ≠ sha (bts p.old) then 10 else p.e }) := by unfold hdP; rw [if_neg c4]
    rw [e1]
    clear e1 f1 f2 f3 f4
    have k2 : num (p.wait.extract 36 40) < 72057594037927936 := num_lt' (by rw [ByteArray.size_extract]; omega)
    have k3 : num (p.wait.extract 0 4) < 72057594037927936 := num_lt' (by rw [ByteArray.size_extract]; omega)
    generalize num (p.wait.extract 36 40) = sz at k2 ⊢
    generalize num (p.wait.extract 0 4) = oz at k3 ⊢
    simp -implicitDefEqProofs only [go_sem]
    by_cases c5 : 8192 < sz
    · have a5 : decide ((sz : Int) > 8192) = true := decide_eq_true (by omega)
      simp -implicitDefEqProofs only [go_sem, a5]
      rw [if_pos c5]
      unfold hM patC
      refine sub_mk [(5, 3), (6, 4)] rfl rfl rfl ?_
      simp only [tmSub, hpSub, objSub, eqTm, eqHp, rn, lk, SV.ren, SV.renC, SV.renB, SV.renA, ren_ints, ren_strs, ren_pl, ren_svs, SV.v.injEq, Value.int.injEq, Body.ints.injEq, SV.ptr.injEq, SV.sl.injEq, Value.string.injEq, Value.bool.injEq, List.map_cons, List.map_nil, forall_const, Nat.reduceLT, Nat.lt_add_one, imp_self, true_and, and_true, and_self, ob_some, get_mk, lk_cons, ↓reduceIte, Nat.reduceEqDiff, ne_eq, not_true_eq_false, not_false_eq_true, Nat.one_ne_zero, Nat.zero_ne_one, Nat.succ_ne_self, Nat.reduceAdd, Bool.false_eq_true, false_implies, implies_true, reduceCtorEq]
      repeat' (first | rfl | apply And.intro)
    have a5 : decide ((sz : Int) > 8192) = false := decide_eq_false (by omega)
    simp -implicitDefEqProofs only [go_sem, a5]
    rw [if_neg c5]
    by_cases c6 : oz = p.old.size
    · have a6 : decide ((oz : Int) = p.old.size) = true := decide_eq_true (by omega)
      simp -implicitDefEqProofs only [go_sem, a6]
      refine at_call t9 (sum1S (s := p.old) (by rfl) (by omega)) ?_
      by_cases c7 : p.wait.extract 4 36 = sha (bts p.old)
      · have a7 : seq (p.wait.extract 4 36) (sha (bts p.old)) = true := by rw [c7]; exact seq_self _
        simp -implicitDefEqProofs only [go_sem, a6, a7]
        rw [if_neg (fun h => h.elim (fun h => h c6) fun h => h c7)]
        unfold hM patC
        refine sub_mk [(5, 3), (6, 4)] rfl rfl rfl ?_
        simp only [tmSub, hpSub, objSub, eqTm, eqHp, rn, lk, SV.ren, SV.renC, SV.renB, SV.renA, ren_ints, ren_strs, ren_pl, ren_svs, SV.v.injEq, Value.int.injEq, Body.ints.injEq, SV.ptr.injEq, SV.sl.injEq, Value.string.injEq, Value.bool.injEq, List.map_cons, List.map_nil, forall_const, Nat.reduceLT, Nat.lt_add_one, imp_self, true_and, and_true, and_self, ob_some, get_mk, lk_cons, ↓reduceIte, Nat.reduceEqDiff, ne_eq, not_true_eq_false, not_false_eq_true, Nat.one_ne_zero, Nat.zero_ne_one, Nat.succ_ne_self, Nat.reduceAdd, Bool.false_eq_true, false_implies, implies_true, reduceCtorEq]
        repeat' (first | rfl | apply And.intro)
      · have a7 : seq (p.wait.extract 4 36) (sha (bts p.old)) = false := seq_ne c7
        simp -implicitDefEqProofs only [go_sem, a6, a7]
        rw [if_pos (.inr c7)]
        unfold hM patC
        refine sub_mk [(5, 3), (6, 4)] rfl rfl rfl ?_
        simp only [tmSub, hpSub, objSub, eqTm, eqHp, rn, lk, SV.ren, SV.renC, SV.renB, SV.renA, ren_ints, ren_strs, ren_pl, ren_svs, SV.v.injEq, Value.int.injEq, Body.ints.injEq, SV.ptr.injEq, SV.sl.injEq, Value.string.injEq, Value.bool.injEq, List.map_cons, List.map_nil, forall_const, Nat.reduceLT, Nat.lt_add_one, imp_self, true_and, and_true, and_self, ob_some, get_mk, lk_cons, ↓reduceIte, Nat.reduceEqDiff, ne_eq, not_true_eq_false, not_false_eq_true, Nat.one_ne_zero, Nat.zero_ne_one, Nat.succ_ne_self, Nat.reduceAdd, Bool.false_eq_true, false_implies, implies_true, reduceCtorEq]
        repeat' (first | rfl | apply And.intro)
    · have a6 : decide ((oz : Int) = p.old.size) = false := decide_eq_false (by omega)
      simp -implicitDefEqProofs only [go_sem, a6]
      rw [if_pos (.inl c6)]
      unfold hM patC
      refine sub_mk [(5, 3), (6, 4)] rfl rfl rfl ?_
      simp only [tmSub, hpSub, objSub, eqTm, eqHp, rn, lk, SV.ren, SV.renC, SV.renB, SV.renA, ren_ints, ren_strs, ren_pl, ren_svs, SV.v.injEq, Value.int.injEq, Body.ints.injEq, SV.ptr.injEq, SV.sl.injEq, Value.string.injEq, Value.bool.injEq, List.map_cons, List.map_nil, forall_const, Nat.reduceLT, Nat.lt_add_one, imp_self, true_and, and_true, and_self, ob_some, get_mk, lk_cons, ↓reduceIte, Nat.reduceEqDiff, ne_eq, not_true_eq_false, not_false_eq_true, Nat.one_ne_zero, Nat.zero_ne_one, Nat.succ_ne_self, Nat.reduceAdd, Bool.false_eq_true, false_implies, implies_true, reduceCtorEq]
      repeat' (first | rfl | apply And.intro)
  have a3 : p.begun = true := by simpa using c3
  have e1 : tkP p = if num (p.wait.extract 0 1) ≠ 1 ∧ num (p.wait.extract 0 1) ≠ 2 then (true, { p with e := 3 })
      else if num (p.wait.extract 0 1) = 1 then if p.wait.size < 7 then (false, p) else (true, cpP p (num (p.wait.extract 1 5)) (num (p.wait.extract 5 7)))
      else if p.wait.size < 3 then (false, p) else (true, adP p (num (p.wait.extract 1 3))) := by unfold tkP; rw [if_neg (fun h => c1 h.1), if_neg (by omega), if_neg c3]
  rw [e1]
  clear e1
  rw [a3]
  have k0 : (bts p.wait).getD 0 0 = (num (p.wait.extract 0 1) : Nat) := kind_num (by omega)
  have kb : num (p.wait.extract 0 1) < 256 := num_ltk (k := 1) (by rw [ByteArray.size_extract]; omega)
  generalize hkd : num (p.wait.extract 0 1) = kd at k0 kb ⊢
  simp -implicitDefEqProofs only [go_sem, a1, a2, k0]
  refine ⟨by omega, ?_⟩
  by_cases c4 : kd = 1
  · have b1 : decide ((kd : Int) = 1) = true := decide_eq_true (by omega)
    rw [if_neg (by omega), if_pos c4]
    simp -implicitDefEqProofs only [go_sem, a1, a2, k0, b1]
    by_cases c5 : p.wait.size < 7
    · have a5 : decide ((p.wait.size : Int) ≥ 7) = false := decide_eq_false (by omega)
      have b2 : decide ((kd : Int) = 2) = false := decide_eq_false (by omega)
      rw [if_pos c5]
      simp -implicitDefEqProofs only [go_sem, a1, a2, k0, b1, b2, a5]
      unfold hM patC
      refine sub_mk [(5, 3), (6, 4)] rfl rfl rfl ?_
      simp only [tmSub, hpSub, objSub, eqTm, eqHp, rn, lk, SV.ren, SV.renC, SV.renB, SV.renA, ren_ints, ren_strs, ren_pl, ren_svs, SV.v.injEq, Value.int.injEq, Body.ints.injEq, SV.ptr.injEq, SV.sl.injEq, Value.string.injEq, Value.bool.injEq, List.map_cons, List.map_nil, forall_const, Nat.reduceLT, Nat.lt_add_one, imp_self, true_and, and_true, and_self, ob_some, get_mk, lk_cons, ↓reduceIte, Nat.reduceEqDiff, ne_eq, not_true_eq_false, not_false_eq_true, Nat.one_ne_zero, Nat.zero_ne_one, Nat.succ_ne_self, Nat.reduceAdd, Bool.false_eq_true, false_implies, implies_true, reduceCtorEq]
      try rw [a3]
      repeat' (first | rfl | apply And.intro)
    have a5 : decide ((p.wait.size : Int) ≥ 7) = true := decide_eq_true (by omega)
    rw [if_neg c5]
    simp -implicitDefEqProofs only [go_sem, a1, a2, k0, b1, a5]
    refine in_call mixT tDCut ?_
    unfold mDCut
    simp -implicitDefEqProofs only [↓fnVC, initTm]
    simp -implicitDefEqProofs only [go_sem]
    refine ⟨by omega, ?_⟩
    simp -implicitDefEqProofs only [go_sem]
    refine ⟨by omega, ?_⟩
    simp -implicitDefEqProofs only [go_sem]
    refine at_call tPRead (preadS (by decide)) ?_
    simp -implicitDefEqProofs only [go_sem]
    have hs7 : (p.wait.extract 0 7).size = 7 := by rw [ByteArray.size_extract]; omega
    have f1 := rd_at (s := p.wait.extract 0 7) (k := 0) (w := 1) (by omega)
    have f2 := rd_at (s := p.wait.extract 0 7) (k := 1) (w := 4) (by omega)
    have f3 := rd_at (s := p.wait.extract 0 7) (k := 5) (w := 2) (by omega)
    rw [ext_all] at f1
    refine at_call tRByte (byteS (i := 5) (s := p.wait.extract 0 7) (e := 0) (by rfl) (by decide)) ?_
    rw [f1.1, f1.2.1, f1.2.2]
    simp -implicitDefEqProofs only [go_sem]
    refine at_call tRFour (fourS (i := 5) (s := (p.wait.extract 0 7).extract 1 (p.wait.extract 0 7).size) (e := 0) (by rfl) (by decide)) ?_
    rw [f2.1, f2.2.1, f2.2.2]
    simp -implicitDefEqProofs only [go_sem]
    refine at_call tRTwo (twoS (i := 5) (s := (p.wait.extract 0 7).extract 5 (p.wait.extract 0 7).size) (e := 0) (by rfl) (by decide)) ?_
    rw [f3.1, f3.2.1, f3.2.2]
    rw [ext0 (s := p.wait) (a := 7) (b := 1) (c := 5) (by decide), ext0 (s := p.wait) (a := 7) (b := 5) (c := 7) (by decide)]
    clear f1 f2 f3
    have k2 : num (p.wait.extract 1 5) < 72057594037927936 := num_lt' (by rw [ByteArray.size_extract]; omega)
    have k3 : num (p.wait.extract 5 7) < 65536 := num_ltk (k := 2) (by rw [ByteArray.size_extract]; omega)
    generalize num (p.wait.extract 1 5) = fr at k2 ⊢
    generalize num (p.wait.extract 5 7) = k at k3 ⊢
    simp -implicitDefEqProofs only [go_sem]
    by_cases c6 : k = 0
    · have a6 : decide ((k : Int) = 0) = true := decide_eq_true (by omega)
      rw [show cpP p fr k = { p with wait := p.wait.extract 7 p.wait.size, e := 3 } from if_pos (.inl c6)]
      simp -implicitDefEqProofs only [go_sem, a6]
      unfold hM patC
      refine sub_mk [(5, 3), (6, 4)] rfl rfl rfl ?_
      simp only [tmSub, hpSub, objSub, eqTm, eqHp, rn, lk, SV.ren, SV.renC, SV.renB, SV.renA, ren_ints, ren_strs, ren_pl, ren_svs, SV.v.injEq, Value.int.injEq, Body.ints.injEq, SV.ptr.injEq, SV.sl.injEq, Value.string.injEq, Value.bool.injEq, List.map_cons, List.map_nil, forall_const, Nat.reduceLT, Nat.lt_add_one, imp_self, true_and, and_true, and_self, ob_some, get_mk, lk_cons, ↓reduceIte, Nat.reduceEqDiff, ne_eq, not_true_eq_false, not_false_eq_true, Nat.one_ne_zero, Nat.zero_ne_one, Nat.succ_ne_self, Nat.reduceAdd, Bool.false_eq_true, false_implies, implies_true, reduceCtorEq]
      try rw [a3]
      repeat' (first | rfl | apply And.intro)
    have a6 : decide ((k : Int) = 0) = false := decide_eq_false (by omega)
    by_cases c7 : p.old.size < fr
    · have a7 : decide ((fr : Int) > p.old.size) = true := decide_eq_true (by omega)
      rw [show cpP p fr k = { p with wait := p.wait.extract 7 p.wait.size, e := 3 } from if_pos (.inr (.inl c7))]
      simp -implicitDefEqProofs only [go_sem, a6, a7]
      unfold hM patC
      refine sub_mk [(5, 3), (6, 4)] rfl rfl rfl ?_
      simp only [tmSub, hpSub, objSub, eqTm, eqHp, rn, lk, SV.ren, SV.renC, SV.renB, SV.renA, ren_ints, ren_strs, ren_pl, ren_svs, SV.v.injEq, Value.int.injEq, Body.ints.injEq, SV.ptr.injEq, SV.sl.injEq, Value.string.injEq, Value.bool.injEq, List.map_cons, List.map_nil, forall_const, Nat.reduceLT, Nat.lt_add_one, imp_self, true_and, and_true, and_self, ob_some, get_mk, lk_cons, ↓reduceIte, Nat.reduceEqDiff, ne_eq, not_true_eq_false, not_false_eq_true, Nat.one_ne_zero, Nat.zero_ne_one, Nat.succ_ne_self, Nat.reduceAdd, Bool.false_eq_true, false_implies, implies_true, reduceCtorEq]
      try rw [a3]
      repeat' (first | rfl | apply And.intro)
    have a7 : decide ((fr : Int) > p.old.size) = false := decide_eq_false (by omega)
    have w1 : IntKind.i64.wrap ((p.old.size : Int) - (fr : Int)) = (p.old.size : Int) - fr := wrap_i64 (by omega) (by omega)
    by_cases c8 : p.old.size < fr + k
    · have a8 : decide ((k : Int) > (p.old.size : Int) - fr) = true := decide_eq_true (by omega)
      rw [show cpP p fr k = { p with wait := p.wait.extract 7 p.wait.size, e := 3 } from if_pos (.inr (.inr c8))]
      simp -implicitDefEqProofs only [go_sem, a6, a7, w1, a8]
      unfold hM patC
      refine sub_mk [(5, 3), (6, 4)] rfl rfl rfl ?_
      simp only [tmSub, hpSub, objSub, eqTm, eqHp, rn, lk, SV.ren, SV.renC, SV.renB, SV.renA, ren_ints, ren_strs, ren_pl, ren_svs, SV.v.injEq, Value.int.injEq, Body.ints.injEq, SV.ptr.injEq, SV.sl.injEq, Value.string.injEq, Value.bool.injEq, List.map_cons, List.map_nil, forall_const, Nat.reduceLT, Nat.lt_add_one, imp_self, true_and, and_true, and_self, ob_some, get_mk, lk_cons, ↓reduceIte, Nat.reduceEqDiff, ne_eq, not_true_eq_false, not_false_eq_true, Nat.one_ne_zero, Nat.zero_ne_one, Nat.succ_ne_self, Nat.reduceAdd, Bool.false_eq_true, false_implies, implies_true, reduceCtorEq]
      try rw [a3]
      repeat' (first | rfl | apply And.intro)
    have a8 : decide ((k : Int) > (p.old.size : Int) - fr) = false := decide_eq_false (by omega)
    rw [show cpP p fr k = if p.size < p.made.size + k then { p with wait := p.wait.extract 7 p.wait.size, e := 4 } else { p with wait := p.wait.extract 7 p.wait.size, made := p.made ++ p.old.extract fr (fr + k) } from if_neg (by omega)]
    simp -implicitDefEqProofs only [go_sem, a6, a7, w1, a8]
    refine in_call mixT tDFits ?_
    unfold mDFits
    simp -implicitDefEqProofs only [↓fnVC, initTm]
    simp -implicitDefEqProofs only [go_sem]
    refine in_call mixT tBLen ?_
    unfold mBLen
    simp -implicitDefEqProofs only [↓fnVC, initTm]
    simp -implicitDefEqProofs only [go_sem]
    have w2 : IntKind.i64.wrap ((p.size : Int) - (p.made.size : Int)) = (p.size : Int) - p.made.size := by rw [wrap_i64 (by omega) (by omega)]
    by_cases c9 : p.size < p.made.size + k
    · have a9 : decide ((k : Int) > (p.size : Int) - p.made.size) = true := decide_eq_true (by omega)
      rw [if_pos c9]
      simp -implicitDefEqProofs only [go_sem, w2, a9]
      unfold hM patC
      refine sub_mk [(5, 3), (6, 4)] rfl rfl rfl ?_
      simp only [tmSub, hpSub, objSub, eqTm, eqHp, rn, lk, SV.ren, SV.renC, SV.renB, SV.renA, ren_ints, ren_strs, ren_pl, ren_svs, SV.v.injEq, Value.int.injEq, Body.ints.injEq, SV.ptr.injEq, SV.sl.injEq, Value.string.injEq, Value.bool.injEq, List.map_cons, List.map_nil, forall_const, Nat.reduceLT, Nat.lt_add_one, imp_self, true_and, and_true, and_self, ob_some, get_mk, lk_cons, ↓reduceIte, Nat.reduceEqDiff, ne_eq, not_true_eq_false, not_false_eq_true, Nat.one_ne_zero, Nat.zero_ne_one, Nat.succ_ne_self, Nat.reduceAdd, Bool.false_eq_true, false_implies, implies_true, reduceCtorEq]
      try rw [a3]
      repeat' (first | rfl | apply And.intro)
    have a9 : decide ((k : Int) > (p.size : Int) - p.made.size) = false := decide_eq_false (by omega)
    have ae : decide (p.e = 0) = true := decide_eq_true he
    rw [if_neg c9]
    have w3 : IntKind.i64.wrap ((fr : Int) + (k : Int)) = ((fr + k : Nat) : Int) := by rw [wrap_i64 (by omega) (by omega)]; omega
    simp -implicitDefEqProofs only [go_sem, w2, a9, ae, w3]
    refine ⟨by omega, ?_⟩
    have hk : (p.old.extract fr (fr + k)).size = k := by rw [ByteArray.size_extract]; omega
    refine in_call mixT tBWriteString ?_
    unfold mBWriteString
    simp -implicitDefEqProofs only [↓fnVC, initTm]
    simp -implicitDefEqProofs only [go_sem]
    refine at_ext (enters_mk Try.func54 rfl rfl) (ckU7 (i := 1) (by rfl) rfl) ?_
    simp -implicitDefEqProofs only [go_sem, hk]
    refine ⟨by omega, fun _ => ⟨rfl, 4, ⟨false, .mp (.shp 3 5 none)⟩, rfl, rfl⟩, by rw [bts_len]; exact Nat.le_refl _, ?_⟩
    unfold hM patC
    refine sub_mk [(5, 6), (6, 7)] rfl rfl rfl ?_
    simp only [tmSub, hpSub, objSub, eqTm, eqHp, rn, lk, SV.ren, SV.renC, SV.renB, SV.renA, ren_ints, ren_strs, ren_pl, ren_svs, SV.v.injEq, Value.int.injEq, Body.ints.injEq, SV.ptr.injEq, SV.sl.injEq, Value.string.injEq, Value.bool.injEq, List.map_cons, List.map_nil, forall_const, Nat.reduceLT, Nat.lt_add_one, imp_self, true_and, and_true, and_self, ob_some, get_mk, lk_cons, ↓reduceIte, Nat.reduceEqDiff, ne_eq, not_true_eq_false, not_false_eq_true, Nat.one_ne_zero, Nat.zero_ne_one, Nat.succ_ne_self, Nat.reduceAdd, Bool.false_eq_true, false_implies, implies_true, reduceCtorEq]
    rw [ByteArray.size_append, hk, bts_app, List.take_of_length_le (by rw [bts_len]; exact Nat.le_refl _)]
    try rw [a3]
    repeat' (first | rfl | apply And.intro)
  have b1 : decide ((kd : Int) = 1) = false := decide_eq_false (by omega)
  by_cases c5 : kd = 2
  · have b2 : decide ((kd : Int) = 2) = true := decide_eq_true (by omega)
    rw [if_neg (by omega), if_neg c4]
    simp -implicitDefEqProofs only [go_sem, a1, a2, k0, b1, b2]
    by_cases c6 : p.wait.size < 3
    · have a5 : decide ((p.wait.size : Int) ≥ 3) = false := decide_eq_false (by omega)
      rw [if_pos c6]
      simp -implicitDefEqProofs only [go_sem, a1, a2, k0, b1, b2, a5]
      unfold hM patC
      refine sub_mk [(5, 3), (6, 4)] rfl rfl rfl ?_
      simp only [tmSub, hpSub, objSub, eqTm, eqHp, rn, lk, SV.ren, SV.renC, SV.renB, SV.renA, ren_ints, ren_strs, ren_pl, ren_svs, SV.v.injEq, Value.int.injEq, Body.ints.injEq, SV.ptr.injEq, SV.sl.injEq, Value.string.injEq, Value.bool.injEq, List.map_cons, List.map_nil, forall_const, Nat.reduceLT, Nat.lt_add_one, imp_self, true_and, and_true, and_self, ob_some, get_mk, lk_cons, ↓reduceIte, Nat.reduceEqDiff, ne_eq, not_true_eq_false, not_false_eq_true, Nat.one_ne_zero, Nat.zero_ne_one, Nat.succ_ne_self, Nat.reduceAdd, Bool.false_eq_true, false_implies, implies_true, reduceCtorEq]
      try rw [a3]
      repeat' (first | rfl | apply And.intro)
    have a5 : decide ((p.wait.size : Int) ≥ 3) = true := decide_eq_true (by omega)
    rw [if_neg c6]
    simp -implicitDefEqProofs only [go_sem, a1, a2, k0, b1, b2, a5]
    refine in_call mixT tDCut ?_
    unfold mDCut
    simp -implicitDefEqProofs only [↓fnVC, initTm]
    simp -implicitDefEqProofs only [go_sem]
    refine ⟨by omega, ?_⟩
    simp -implicitDefEqProofs only [go_sem]
    refine ⟨by omega, ?_⟩
    simp -implicitDefEqProofs only [go_sem]
    refine at_call tPRead (preadS (by decide)) ?_
    simp -implicitDefEqProofs only [go_sem]
    have hs3 : (p.wait.extract 0 3).size = 3 := by rw [ByteArray.size_extract]; omega
    have f1 := rd_at (s := p.wait.extract 0 3) (k := 0) (w := 1) (by omega)
    have f2 := rd_at (s := p.wait.extract 0 3) (k := 1) (w := 2) (by omega)
    rw [ext_all] at f1
    refine at_call tRByte (byteS (i := 5) (s := p.wait.extract 0 3) (e := 0) (by rfl) (by decide)) ?_
    rw [f1.1, f1.2.1, f1.2.2]
    simp -implicitDefEqProofs only [go_sem]
    refine at_call tRTwo (twoS (i := 5) (s := (p.wait.extract 0 3).extract 1 (p.wait.extract 0 3).size) (e := 0) (by rfl) (by decide)) ?_
    rw [f2.1, f2.2.1, f2.2.2]
    rw [ext0 (s := p.wait) (a := 3) (b := 1) (c := 3) (by decide)]
    clear f1 f2
    have k3 : num (p.wait.extract 1 3) < 65536 := num_ltk (k := 2) (by rw [ByteArray.size_extract]; omega)
    generalize num (p.wait.extract 1 3) = k at k3 ⊢
    simp -implicitDefEqProofs only [go_sem]
    by_cases c7 : k = 0
    · have a6 : decide ((k : Int) = 0) = true := decide_eq_true (by omega)
      rw [show adP p k = { p with wait := p.wait.extract 3 p.wait.size, e := 3 } from if_pos c7]
      simp -implicitDefEqProofs only [go_sem, a6]
      unfold hM patC
      refine sub_mk [(5, 3), (6, 4)] rfl rfl rfl ?_
      simp only [tmSub, hpSub, objSub, eqTm, eqHp, rn, lk, SV.ren, SV.renC, SV.renB, SV.renA, ren_ints, ren_strs, ren_pl, ren_svs, SV.v.injEq, Value.int.injEq, Body.ints.injEq, SV.ptr.injEq, SV.sl.injEq, Value.string.injEq, Value.bool.injEq, List.map_cons, List.map_nil, forall_const, Nat.reduceLT, Nat.lt_add_one, imp_self, true_and, and_true, and_self, ob_some, get_mk, lk_cons, ↓reduceIte, Nat.reduceEqDiff, ne_eq, not_true_eq_false, not_false_eq_true, Nat.one_ne_zero, Nat.zero_ne_one, Nat.succ_ne_self, Nat.reduceAdd, Bool.false_eq_true, false_implies, implies_true, reduceCtorEq]
      try rw [a3]
      repeat' (first | rfl | apply And.intro)
    have a6 : decide ((k : Int) = 0) = false := decide_eq_false (by omega)
    rw [show adP p k = if p.size < p.made.size + k then { p with wait := p.wait.extract 3 p.wait.size, e := 4 } else { p with wait := p.wait.extract 3 p.wait.size, adds := k } from if_neg c7]
    simp -implicitDefEqProofs only [go_sem, a6]
    refine in_call mixT tDFits ?_
    unfold mDFits
    simp -implicitDefEqProofs only [↓fnVC, initTm]
    simp -implicitDefEqProofs only [go_sem]
    refine in_call mixT tBLen ?_
    unfold mBLen
    simp -implicitDefEqProofs only [↓fnVC, initTm]
    simp -implicitDefEqProofs only [go_sem]
    have w2 : IntKind.i64.wrap ((p.size : Int) - (p.made.size : Int)) = (p.size : Int) - p.made.size := by rw [wrap_i64 (by omega) (by omega)]
    by_cases c9 : p.size < p.made.size + k
    · have a9 : decide ((k : Int) > (p.size : Int) - p.made.size) = true := decide_eq_true (by omega)
      rw [if_pos c9]
      simp -implicitDefEqProofs only [go_sem, w2, a9]
      unfold hM patC
      refine sub_mk [(5, 3), (6, 4)] rfl rfl rfl ?_
      simp only [tmSub, hpSub, objSub, eqTm, eqHp, rn, lk, SV.ren, SV.renC, SV.renB, SV.renA, ren_ints, ren_strs, ren_pl, ren_svs, SV.v.injEq, Value.int.injEq, Body.ints.injEq, SV.ptr.injEq, SV.sl.injEq, Value.string.injEq, Value.bool.injEq, List.map_cons, List.map_nil, forall_const, Nat.reduceLT, Nat.lt_add_one, imp_self, true_and, and_true, and_self, ob_some, get_mk, lk_cons, ↓reduceIte, Nat.reduceEqDiff, ne_eq, not_true_eq_false, not_false_eq_true, Nat.one_ne_zero, Nat.zero_ne_one, Nat.succ_ne_self, Nat.reduceAdd, Bool.false_eq_true, false_implies, implies_true, reduceCtorEq]
      try rw [a3]
      repeat' (first | rfl | apply And.intro)
    have a9 : decide ((k : Int) > (p.size : Int) - p.made.size) = false := decide_eq_false (by omega)
    have ae : decide (p.e = 0) = true := decide_eq_true he
    rw [if_neg c9]
    simp -implicitDefEqProofs only [go_sem, w2, a9, ae]
    unfold hM patC
    refine sub_mk [(5, 3), (6, 4)] rfl rfl rfl ?_
    simp only [tmSub, hpSub, objSub, eqTm, eqHp, rn, lk, SV.ren, SV.renC, SV.renB, SV.renA, ren_ints, ren_strs, ren_pl, ren_svs, SV.v.injEq, Value.int.injEq, Body.ints.injEq, SV.ptr.injEq, SV.sl.injEq, Value.string.injEq, Value.bool.injEq, List.map_cons, List.map_nil, forall_const, Nat.reduceLT, Nat.lt_add_one, imp_self, true_and, and_true, and_self, ob_some, get_mk, lk_cons, ↓reduceIte, Nat.reduceEqDiff, ne_eq, not_true_eq_false, not_false_eq_true, Nat.one_ne_zero, Nat.zero_ne_one, Nat.succ_ne_self, Nat.reduceAdd, Bool.false_eq_true, false_implies, implies_true, reduceCtorEq]
    try rw [a3]
    repeat' (first | rfl | apply And.intro)
  have b2 : decide ((kd : Int) = 2) = false := decide_eq_false (by omega)
  rw [if_pos ⟨c4, c5⟩]
  simp -implicitDefEqProofs only [go_sem, a1, a2, b1, b2, k0]
  unfold hM patC
  refine sub_mk [(5, 3), (6, 4)] rfl rfl rfl ?_
  simp only [tmSub, hpSub, objSub, eqTm, eqHp, rn, lk, SV.ren, SV.renC, SV.renB, SV.renA, ren_ints, ren_strs, ren_pl, ren_svs, SV.v.injEq, Value.int.injEq, Body.ints.injEq, SV.ptr.injEq, SV.sl.injEq, Value.string.injEq, Value.bool.injEq, List.map_cons, List.map_nil, forall_const, Nat.reduceLT, Nat.lt_add_one, imp_self, true_and, and_true, and_self, ob_some, get_mk, lk_cons, ↓reduceIte, Nat.reduceEqDiff, ne_eq, not_true_eq_false, not_false_eq_true, Nat.one_ne_zero, Nat.zero_ne_one, Nat.succ_ne_self, Nat.reduceAdd, Bool.false_eq_true, false_implies, implies_true, reduceCtorEq]
  try rw [a3]
  repeat' (first | rfl | apply And.intro)
end
end Go.Sx