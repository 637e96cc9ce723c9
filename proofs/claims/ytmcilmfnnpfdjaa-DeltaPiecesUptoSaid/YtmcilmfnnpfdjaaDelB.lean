/- Delta, plain: what is taken, one thing behind the other. -/
import Derived.Test.YtmcilmfnnpfdjaaDelA

set_option linter.unusedVariables false
set_option linter.unusedSimpArgs false
set_option maxRecDepth 100000
namespace Go.Sx
open Go.Proofs
variable {p q : Pt}
theorem ex_size {s : ByteArray} {a b : Nat} : (s.extract a b).size = min b s.size - a := ByteArray.size_extract
structure TkOK (p : Pt) (b : Bool) (q : Pt) : Prop where
  ok : q.ok
  wait : q.wait.size ≤ p.wait.size
  seen : q.seen = p.seen
  old : q.old = p.old
  cl : q.closed = p.closed
  made : p.made.size ≤ q.made.size
  tr : b = true → q.e ≠ 0 ∨ q.wait.size < p.wait.size
  fl : b = false → q = p
theorem TkOK.id (hp : p.ok) : TkOK p false p := ⟨hp, Nat.le_refl _, rfl, rfl, rfl, Nat.le_refl _, (fun h => by cases h), fun _ => rfl⟩
theorem hd_ok (hp : p.ok) (hm : p.made.size + p.adds = 0) (he : p.e = 0) : TkOK p (hdP p).1 (hdP p).2 := by
  unfold hdP
  split
  · exact .id hp
  rename_i h
  have h1 := hp.ow
  have k2 : num (p.wait.extract 36 40) < 4294967296 := num_ltk (k := 4) (by rw [ex_size]; omega)
  generalize num (p.wait.extract 36 40) = sz at k2 ⊢
  refine ⟨⟨by show (p.wait.extract 72 _).size ≤ _; rw [ex_size]; omega, hp.os, k2, hp.om, fun e => ?_⟩, by show (p.wait.extract 72 _).size ≤ _; rw [ex_size]; omega, rfl, rfl, rfl, Nat.le_refl _, fun _ => .inr (by show (p.wait.extract 72 _).size < _; rw [ex_size]; omega), fun h => by cases h⟩
  have e : (if 8192 < sz then (4 : Int) else if num (p.wait.extract 0 4) ≠ p.old.size ∨ p.wait.extract 4 36 ≠ sha (bts p.old) then 10 else p.e) = 0 := e
  by_cases c : 8192 < sz
  · rw [if_pos c] at e; exact absurd e (by decide)
  · exact ⟨(hp.oe he).1, by show sz ≤ _; omega, by show p.made.size + p.adds ≤ _; omega⟩
theorem cp_ok {f k : Nat} (hp : p.ok) (hm : p.adds = 0) (he : p.e = 0) (h7 : 7 ≤ p.wait.size) : TkOK p true (cpP p f k) := by
  have h1 := hp.ow
  obtain ⟨g1, g2, g3⟩ := hp.oe he
  have hw : (p.wait.extract 7 p.wait.size).size < p.wait.size := by rw [ex_size]; omega
  unfold cpP
  split
  · exact ⟨⟨by show (p.wait.extract 7 _).size ≤ _; omega, hp.os, hp.oz, hp.om, fun e => absurd e (by show ¬((3 : Int) = 0); decide)⟩, by show (p.wait.extract 7 _).size ≤ _; omega, rfl, rfl, rfl, Nat.le_refl _, fun _ => .inr hw, fun h => by cases h⟩
  split
  · exact ⟨⟨by show (p.wait.extract 7 _).size ≤ _; omega, hp.os, hp.oz, hp.om, fun e => absurd e (by show ¬((4 : Int) = 0); decide)⟩, by show (p.wait.extract 7 _).size ≤ _; omega, rfl, rfl, rfl, Nat.le_refl _, fun _ => .inr hw, fun h => by cases h⟩
  rename_i h h2
  have hs : (p.made ++ p.old.extract f (f + k)).size = p.made.size + k := by rw [ByteArray.size_append, ex_size]; omega
  exact ⟨⟨by show (p.wait.extract 7 _).size ≤ _; omega, hp.os, hp.oz, by show (p.made ++ p.old.extract f (f + k)).size + p.adds ≤ _; omega, fun e => ⟨g1, g2, by show (p.made ++ p.old.extract f (f + k)).size + p.adds ≤ p.size; omega⟩⟩, by show (p.wait.extract 7 _).size ≤ _; omega, rfl, rfl, rfl, by show _ ≤ (p.made ++ p.old.extract f (f + k)).size; omega, fun _ => .inr hw, fun h => by cases h⟩
theorem ad_ok {k : Nat} (hp : p.ok) (hm : p.adds = 0) (he : p.e = 0) (h7 : 3 ≤ p.wait.size) : TkOK p true (adP p k) := by
  have h1 := hp.ow
  obtain ⟨g1, g2, g3⟩ := hp.oe he
  have hw : (p.wait.extract 3 p.wait.size).size < p.wait.size := by rw [ex_size]; omega
  unfold adP
  split
  · exact ⟨⟨by show (p.wait.extract 3 _).size ≤ _; omega, hp.os, hp.oz, hp.om, fun e => absurd e (by show ¬((3 : Int) = 0); decide)⟩, by show (p.wait.extract 3 _).size ≤ _; omega, rfl, rfl, rfl, Nat.le_refl _, fun _ => .inr hw, fun h => by cases h⟩
  split
  · exact ⟨⟨by show (p.wait.extract 3 _).size ≤ _; omega, hp.os, hp.oz, hp.om, fun e => absurd e (by show ¬((4 : Int) = 0); decide)⟩, by show (p.wait.extract 3 _).size ≤ _; omega, rfl, rfl, rfl, Nat.le_refl _, fun _ => .inr hw, fun h => by cases h⟩
  rename_i h h2
  exact ⟨⟨by show (p.wait.extract 3 _).size ≤ _; omega, hp.os, hp.oz, by show p.made.size + k ≤ _; omega, fun e => ⟨g1, g2, by show p.made.size + k ≤ p.size; omega⟩⟩, by show (p.wait.extract 3 _).size ≤ _; omega, rfl, rfl, rfl, Nat.le_refl _, fun _ => .inr hw, fun h => by cases h⟩
/-- Before the head nothing is made. -/
def Pt.fresh (p : Pt) : Prop := p.begun = false → p.made.size + p.adds = 0
theorem tk_ok (hp : p.ok) (hf : p.fresh) (he : p.e = 0) : TkOK p (tkP p).1 (tkP p).2 ∧ (tkP p).2.fresh := by
  have h1 := hp.ow
  obtain ⟨g1, g2, g3⟩ := hp.oe he
  have h0 := hp.om
  unfold tkP
  split
  · rename_i c
    have mn : min p.adds p.wait.size ≤ p.wait.size := Nat.min_le_right _ _
    have mna : min p.adds p.wait.size ≤ p.adds := Nat.min_le_left _ _
    have mn0 : 0 < min p.adds p.wait.size := by omega
    generalize min p.adds p.wait.size = k at mn mna mn0 ⊢
    have hs : (p.made ++ p.wait.extract 0 k).size = p.made.size + k := by rw [ByteArray.size_append, ex_size]; omega
    have hw : (p.wait.extract k p.wait.size).size < p.wait.size := by rw [ex_size]; omega
    refine ⟨⟨⟨by show (p.wait.extract k _).size ≤ _; omega, hp.os, hp.oz, by show (p.made ++ p.wait.extract 0 k).size + (p.adds - k) ≤ _; omega, fun e => ⟨g1, g2, by show (p.made ++ p.wait.extract 0 k).size + (p.adds - k) ≤ p.size; omega⟩⟩, by show (p.wait.extract k _).size ≤ _; omega, rfl, rfl, rfl, by show _ ≤ (p.made ++ p.wait.extract 0 k).size; omega, fun _ => .inr hw, fun h => by cases h⟩, fun hb => ?_⟩
    have := hf hb
    omega
  rename_i c1
  split
  · exact ⟨.id hp, hf⟩
  rename_i c2
  split
  · rename_i c3
    refine ⟨hd_ok hp (hf c3) he, ?_⟩
    unfold hdP
    split
    · exact hf
    · intro hb; exact absurd hb (by show ¬(true = false); decide)
  rename_i c3
  have fr : ∀ {q : Pt}, q.begun = p.begun → q.fresh := fun h hb => absurd (h.symm.trans hb) c3
  split
  · exact ⟨⟨⟨hp.ow, hp.os, hp.oz, hp.om, fun e => absurd e (by show ¬((3 : Int) = 0); decide)⟩, Nat.le_refl _, rfl, rfl, rfl, Nat.le_refl _, fun _ => .inl (by show ¬((3 : Int) = 0); decide), fun h => by cases h⟩, fr rfl⟩
  split
  · split
    · exact ⟨.id hp, hf⟩
    · refine ⟨cp_ok hp (by omega) he (by omega), fr ?_⟩
      unfold cpP; split <;> (try split) <;> rfl
  · split
    · exact ⟨.id hp, hf⟩
    · refine ⟨ad_ok hp (by omega) he (by omega), fr ?_⟩
      unfold adP; split <;> (try split) <;> rfl
def muP (p : Pt) : Nat := if p.e = 0 then p.wait.size + 1 else 0
def rnP : Nat → Pt → Pt
  | 0, p => p
  | f + 1, p => if p.e = 0 ∧ (tkP p).1 = true then rnP f (tkP p).2 else p
def runP (p : Pt) : Pt := rnP (muP p) p
theorem run_err (h : p.e ≠ 0) : runP p = p := by unfold runP muP; rw [if_neg h]; rfl
theorem run_stop (h : (tkP p).1 = false) : runP p = p := by
  unfold runP
  cases muP p with
  | zero => rfl
  | succ f => unfold rnP; rw [if_neg (by rw [h]; simp)]
theorem rn_stop (f : Nat) (h : ¬(p.e = 0 ∧ (tkP p).1 = true)) : rnP f p = p := by
  cases f with
  | zero => rfl
  | succ f => unfold rnP; rw [if_neg h]
theorem mu_pos (h : muP p ≤ 0) : ¬(p.e = 0 ∧ (tkP p).1 = true) := by
  intro ⟨he, _⟩
  unfold muP at h
  rw [if_pos he] at h
  omega
theorem mu_lt (hp : p.ok) (hf : p.fresh) (he : p.e = 0) (hb : (tkP p).1 = true) : muP (tkP p).2 < muP p := by
  unfold muP
  rw [if_pos he]
  obtain ⟨t, tf⟩ := tk_ok hp hf he
  rcases t.tr hb with h1 | h1
  · rw [if_neg h1]; omega
  · split <;> omega
theorem rn_fuel (f : Nat) : ∀ {g : Nat} {p : Pt}, p.ok → p.fresh → muP p ≤ f → muP p ≤ g → rnP f p = rnP g p := by
  induction f with
  | zero => intro g p _ _ h _; rw [rn_stop 0 (mu_pos h), rn_stop g (mu_pos h)]
  | succ f ih =>
    intro g p hp hf h hg
    cases g with
    | zero => rw [rn_stop 0 (mu_pos hg), rn_stop _ (mu_pos hg)]
    | succ g =>
      by_cases hc : p.e = 0 ∧ (tkP p).1 = true
      · obtain ⟨t, tf⟩ := tk_ok hp hf hc.1
        have := mu_lt hp hf hc.1 hc.2
        unfold rnP
        rw [if_pos hc, if_pos hc]
        exact ih t.ok tf (by omega) (by omega)
      · rw [rn_stop _ hc, rn_stop _ hc]
theorem run_step (hp : p.ok) (hf : p.fresh) (he : p.e = 0) (hb : (tkP p).1 = true) : runP p = runP (tkP p).2 := by
  obtain ⟨t, tf⟩ := tk_ok hp hf he
  have := mu_lt hp hf he hb
  unfold runP
  cases hm : muP p with
  | zero => omega
  | succ f =>
    show (if p.e = 0 ∧ (tkP p).1 = true then rnP f (tkP p).2 else p) = _
    rw [if_pos ⟨he, hb⟩]
    exact rn_fuel f t.ok tf (by omega) (Nat.le_refl _)
structure RnOK (p q : Pt) : Prop where
  ok : q.ok
  fr : q.fresh
  wait : q.wait.size ≤ p.wait.size
  seen : q.seen = p.seen
  old : q.old = p.old
  cl : q.closed = p.closed
  made : p.made.size ≤ q.made.size
theorem run_ok : ∀ (k : Nat) {p : Pt}, muP p ≤ k → p.ok → p.fresh → RnOK p (runP p)
  | k, p, hk, hp, hf => by
    by_cases hc : p.e = 0 ∧ (tkP p).1 = true
    · obtain ⟨t, tf⟩ := tk_ok hp hf hc.1
      have := mu_lt hp hf hc.1 hc.2
      rw [run_step hp hf hc.1 hc.2]
      cases k with
      | zero => omega
      | succ k =>
        have r := run_ok k (p := (tkP p).2) (by omega) t.ok tf
        exact ⟨r.ok, r.fr, Nat.le_trans r.wait t.wait, r.seen.trans t.seen, r.old.trans t.old, r.cl.trans t.cl, Nat.le_trans t.made r.made⟩
    · have : runP p = p := rn_stop _ hc
      rw [this]
      exact ⟨hp, hf, Nat.le_refl _, rfl, rfl, rfl, Nat.le_refl _⟩
/-- A piece is taken, where nothing is wrong yet. -/
def inP (p : Pt) (s : ByteArray) : Pt := { p with seen := p.seen + s.size, wait := p.wait ++ s.extract 0 (min s.size (16384 - p.seen)) }
def outP (q : Pt) : Pt := { q with e := if q.e = 0 ∧ 16384 < q.seen then 4 else q.e, seen := min q.seen 16385 }
def wrP (p : Pt) (s : ByteArray) : Int × Pt := if p.e ≠ 0 then (p.e, p) else if p.closed then (3, p) else ((outP (runP (inP p s))).e, outP (runP (inP p s)))
structure Pt.good (p : Pt) : Prop where
  ok : p.ok
  fr : p.fresh
  gs : p.seen ≤ 16385
  g1 : p.e = 0 → p.seen ≤ 16384 ∧ p.wait.size ≤ p.seen
end Go.Sx

/- Delta: a piece is taken. -/
set_option linter.unusedVariables false
set_option linter.unusedSimpArgs false
set_option maxRecDepth 100000
namespace Go.Sx
attribute [local go_sem ↓] bind_mk intsB_mk strsB_mk svB_mk fnVC ob_some vc_skip vc_exit vc_ret vc_seq vc_block kSeq_normal kSeq_exit kSeq_ret kBlock_normal kBlock_exit kBlock_ret vc_reg vc_regD vc_cond condK_true condK_false vc_loop kLoop_exit kLoop_ret kRoll_normal kRoll_exit kRoll_ret vcOps_nil vcOps_cons gd_bool gd_undef put_some put_none vcT_fin vcT_pure vcT_act vcT_acts vcT_stop stab_none stab_some stabM_nil stabM_cons stabO_ld stabO_ldn stabO_slP stabO_b2s fldOf_ai fldOf_agg fldOf_ait fldOf_aggt intsOf_nil intsOf_cons strsOf_nil strsOf_cons c_omap ob_if lk_nil lk_cons ev_t ev_k z_mov z_pick z_bin z_binB z_binP z_un z_r2s z_conv z_s2b z_b2s z_mkM z_luM z_upM plV_v plV_agg mpOf_mp mpOf_nil mpUp_mp asM_mp luV_ok luV_v z_allocT aggOf_mk z_boxT z_alloc z_bld z_bldI z_rowI z_rowS z_ld z_ldn z_st z_stn asN_ptr asN_fn z_nilck z_fld z_fadr z_idxA z_idxP z_idxS z_idxV z_slS z_slL z_slP z_mk z_lenS z_lenL z_app appC_ints appC_pl appC_sv appC_strs isS_strs loose_ints loose_pl loose_sv z_slM z_callv callvK_fn callvK_f callvK_yl vc_rangeF rfEnd_eq rfGo_none rfGo_ret rfGo_exit yGo_mk yEnd_n yEnd_r yEnd_e yRdy_mk yMid_n putPs_nil putPs_cons leaf_v leaf_ptr leaf_sl leaf_yl leaf_mp z_appS z_appST z_appZ z_cpyS z_mkfn reps_int reps_str z_rowV z_slnil nilK_zero z_cpy z_call asT_tup z_extT z_box boxOf_ai boxOf_agg boxOf_int boxOf_str boxOf_bool boxOf_ptr boxOf_sl sbin_int sbin_str sbinB_mk sbinP_nn sbinP_pn sbinP_np i_add i_sub i_mul i_quo i_rem i_and i_or i_xor i_andNot i_shl i_shr i_eql i_neq i_lss i_leq i_gtr i_geq st_add st_eql st_neq st_lss st_leq st_gtr st_geq bo_eql bo_neq pt_eql pt_neq un_neg un_xor un_not asI_mk asB_mk asS_mk asP_mk asSl_mk asBy_mk bnd_none bnd_some get_mk hput_mk hdel_mk kill_eq wrOf_eq rowOf_eq rsvs_0 rsvs_1 rsvs_2 rsvs_3 rsv_t rsv_c1 rsv_cn nt_v nt_ptr nt_sl nt_agg nt_ai get_ints get_strs get_pl get_sv getN_ints getN_sv set_ints set_strs set_sv setN_ints setN_sv part_ints part_strs part_sv cat_ints cat_strs cat_sv over_ints over_strs over_sv ones_ints ones_strs evs_nil evs_cons condK_eqt condK_eqf det_callP V_ns V_nn V_gs V_gn obC_mk fresh_ev freshT_ev freshR_ev setN_plagg setN_intsv setN_svai setN_svagg over_intsv set_pl setN_pl setN_plai getN_pl getN_strs part_pl cat_pl over_pl over_plints z_mm
attribute [local go_sem] initTm ne_eq not_true_eq_false not_false_eq_true true_and and_true List.length_cons List.length_nil Int.toNat_natCast Nat.add_zero Nat.zero_add Nat.mul_one List.getElem?_cons_zero List.drop_zero List.take_length List.take_succ_cons List.take_zero List.take_nil List.drop_succ_cons Option.map_some Nat.le_refl implies_true List.getElem?_cons_succ decide_true decide_false Bool.not_true Bool.not_false beq_self_eq_true Nat.succ_ne_self Nat.one_ne_zero Nat.zero_ne_one vk_mk hk_mk nk_mk tok_eq plsOf_map intsOf_map bodyOf_pl bodyOf_ints bodyOf_strs bodyOf_sv part_aggv part_agg part_ai part_int part_str part_bool part_sl part_ptr part_nil numsOf_map u_int u_str u_bool u_pnil u_sl u_ptr u_oci u_ocs evq_nil evq_cons fillS_nil fillS_cons u_ocb ones_pl cells_sv cells_ints cells_strs cells_pl smms_nil smms_cons smm_min smm_max plsOf_nil List.nil_append List.all_cons List.all_nil Bool.and_self Bool.true_and Bool.and_true zws_len zw_len zi_len List.set_cons_zero List.set_cons_succ List.flatMap_cons List.flatMap_nil List.append_nil
attribute [local go_sem_proc] Nat.reduceEqDiff Nat.reduceAdd Nat.reduceMul Nat.reduceLT Nat.reduceLeDiff Nat.reduceSub Int.reduceToNat Int.reduceLE Int.reduceLT reduceCtorEq Int.reduceEq Int.reduceGT Int.reduceGE Int.reduceNeg
attribute [local go_sem_proc ↓] reduceIte
section
open Go.Proofs
variable {H : Hp} {n : Nat} {x : Nat → Option SO}
theorem takeNS {p : Pt} (hp : p.ok) (he : p.e = 0) (hm : ¬p.made.size = 0) :
    SpecAt Try.prog 31 [.ptr 1 0] (hN p 5 x) 7 (.v (.bool (tkP p).1)) ⟨(1, some ⟨true, .sv (patC (tkP p).2 (.ptr 1 7) (.sl 7 0 (tkP p).2.made.size 1))⟩) :: (7, some ⟨true, .ints .u8 (bts (tkP p).2.made)⟩) :: (8, some ⟨false, .mp (.shp 7 5 none)⟩) :: (5, none) :: (hN p 5 x).l, x⟩ 9 := by
  have := lift (n := 7) (H := hN p 5 x) (okT.spec tDTake (takeN (x := x) hp he hm)) [(3, 5), (4, 6)] rfl rfl rfl (by decide) rfl rfl
    ⟨sub_wr (i := 1) rfl (by decide) (by decide) rfl rfl, sub_ro (i := 2) rfl (by decide) rfl rfl, sub_wr (i := 5) rfl (by decide) (by decide) rfl rfl, sub_ro (i := 6) rfl (by decide) rfl rfl, trivial⟩ rfl rfl (by decide)
  exact this
def famE (x : Nat → Option SO) (a : Pt) : St := if a.made.size = 0 then ⟨[(0, .ptr 1 0)], hE a x, 3⟩ else ⟨[(0, .ptr 1 0)], hN a 3 x, 5⟩
theorem famE_E {a : Pt} (h : a.made.size = 0) : famE x a = ⟨[(0, .ptr 1 0)], hE a x, 3⟩ := if_pos h
theorem famE_N {a : Pt} (h : ¬a.made.size = 0) : famE x a = ⟨[(0, .ptr 1 0)], hN a 3 x, 5⟩ := if_neg h
theorem in_ok {p : Pt} {s : ByteArray} (hp : p.good) (he : p.e = 0) (hs : s.size ≤ 1073000000) : (inP p s).ok ∧ (inP p s).fresh := by
  obtain ⟨g1, g2⟩ := hp.g1 he
  have mk : min s.size (16384 - p.seen) ≤ 16384 - p.seen := Nat.min_le_right _ _
  refine ⟨⟨?_, by show p.seen + s.size ≤ _; omega, hp.ok.oz, hp.ok.om, hp.ok.oe⟩, hp.fr⟩
  show (p.wait ++ s.extract 0 (min s.size (16384 - p.seen))).size ≤ _
  rw [ByteArray.size_append, ex_size]
  omega
theorem writeN {p : Pt} {s : ByteArray} (hp : p.good) (hs : s.size ≤ 1073000000) (hm : ¬p.made.size = 0) :
    fnVC CT mDWrite [.ptr 1 0, .v (.string s)] (hN p 3 x) 5 fun v H' n' => Sub 5 ⟨[(0, .v (.int .i64 (wrP p s).1))], hM (wrP p s).2 5 3 x, 7⟩ ⟨[(0, v)], H', n'⟩ := by
  unfold mDWrite hN patC
  simp -implicitDefEqProofs only [↓fnVC, initTm]
  simp -implicitDefEqProofs only [go_sem]
  have ho := hp.ok.os
  have hw := hp.ok.ow
  have gs := hp.gs
  by_cases he : p.e = 0
  rotate_left
  · have b0 : decide (p.e = 0) = false := decide_eq_false he
    simp -implicitDefEqProofs only [go_sem, b0]
    rw [show wrP p s = (p.e, p) from if_pos he]
    unfold hM patC
    refine sub_mk [(5, 3), (6, 4)] rfl rfl rfl ?_
    simp only [tmSub, hpSub, objSub, eqTm, eqHp, rn, lk, SV.ren, SV.renC, SV.renB, SV.renA, ren_ints, ren_strs, ren_pl, ren_svs, SV.v.injEq, Value.int.injEq, Body.ints.injEq, SV.ptr.injEq, SV.sl.injEq, Value.string.injEq, Value.bool.injEq, List.map_cons, List.map_nil, forall_const, Nat.reduceLT, Nat.lt_add_one, imp_self, true_and, and_true, and_self, ob_some, get_mk, lk_cons, ↓reduceIte, Nat.reduceEqDiff, ne_eq, not_true_eq_false, not_false_eq_true, Nat.one_ne_zero, Nat.zero_ne_one, Nat.succ_ne_self, Nat.reduceAdd, Bool.false_eq_true, false_implies, implies_true, reduceCtorEq]
    repeat' (first | rfl | apply And.intro)
  obtain ⟨g1, g2⟩ := hp.g1 he
  have b0 : decide (p.e = 0) = true := decide_eq_true he
  simp -implicitDefEqProofs only [go_sem, b0]
  by_cases hc : p.closed = true
  · rw [show wrP p s = (3, p) by unfold wrP; rw [if_neg (fun h => h he), if_pos hc]]
    rw [hc]
    simp -implicitDefEqProofs only [go_sem, b0]
    unfold hM patC
    refine sub_mk [(5, 3), (6, 4)] rfl rfl rfl ?_
    simp only [tmSub, hpSub, objSub, eqTm, eqHp, rn, lk, SV.ren, SV.renC, SV.renB, SV.renA, ren_ints, ren_strs, ren_pl, ren_svs, SV.v.injEq, Value.int.injEq, Body.ints.injEq, SV.ptr.injEq, SV.sl.injEq, Value.string.injEq, Value.bool.injEq, List.map_cons, List.map_nil, forall_const, Nat.reduceLT, Nat.lt_add_one, imp_self, true_and, and_true, and_self, ob_some, get_mk, lk_cons, ↓reduceIte, Nat.reduceEqDiff, ne_eq, not_true_eq_false, not_false_eq_true, Nat.one_ne_zero, Nat.zero_ne_one, Nat.succ_ne_self, Nat.reduceAdd, Bool.false_eq_true, false_implies, implies_true, reduceCtorEq]
    rw [hc]
    repeat' (first | rfl | apply And.intro)
  have hc' : p.closed = false := by simpa using hc
  rw [show wrP p s = ((outP (runP (inP p s))).e, outP (runP (inP p s))) by unfold wrP; rw [if_neg (fun h => h he), if_neg hc]]
  rw [hc']
  have w1 : IntKind.i64.wrap (16384 - (p.seen : Int)) = ((16384 - p.seen : Nat) : Int) := by rw [wrap_i64 (by omega) (by omega)]; omega
  have mn : min (s.size : Int) ((16384 - p.seen : Nat) : Int) = ((min s.size (16384 - p.seen) : Nat) : Int) := by omega
  have w2 : IntKind.i64.wrap ((p.seen : Int) + (s.size : Int)) = ((p.seen + s.size : Nat) : Int) := by rw [wrap_i64 (by omega) (by omega)]; omega
  have mk : min s.size (16384 - p.seen) ≤ s.size := Nat.min_le_left _ _
  have mk2 : min s.size (16384 - p.seen) ≤ 16384 - p.seen := Nat.min_le_right _ _
  simp -implicitDefEqProofs only [go_sem, b0, w1, mn, w2]
  refine ⟨⟨by omega, by omega⟩, by rw [ex_size]; omega, ?_⟩
  obtain ⟨iok, ifr⟩ := in_ok hp he hs
  generalize hQ0 : runP (inP p s) = Q
  refine loop_fam (fun a : Pt => a.ok ∧ a.fresh ∧ runP a = Q ∧ ¬a.made.size = 0) (fun a => ⟨[(0, .ptr 1 0)], hN a 5 x, 7⟩) muP (inP p s) ⟨iok, ifr, hQ0, hm⟩ ?_ ?_
  · unfold hN patC
    refine sub_mk [(5, 3), (6, 4)] rfl rfl rfl ?_
    simp only [tmSub, hpSub, objSub, eqTm, eqHp, rn, lk, SV.ren, SV.renC, SV.renB, SV.renA, ren_ints, ren_strs, ren_pl, ren_svs, SV.v.injEq, Value.int.injEq, Body.ints.injEq, SV.ptr.injEq, SV.sl.injEq, Value.string.injEq, Value.bool.injEq, List.map_cons, List.map_nil, forall_const, Nat.reduceLT, Nat.lt_add_one, imp_self, true_and, and_true, and_self, ob_some, get_mk, lk_cons, ↓reduceIte, Nat.reduceEqDiff, ne_eq, not_true_eq_false, not_false_eq_true, Nat.one_ne_zero, Nat.zero_ne_one, Nat.succ_ne_self, Nat.reduceAdd, Bool.false_eq_true, false_implies, implies_true, reduceCtorEq]
    rw [show (inP p s).closed = false from hc']
    repeat' (first | rfl | apply And.intro)
  · rintro a ⟨ok1, ok2, hQ, hm⟩
    have hok := And.intro ok1 ok2
    unfold hN patC
    simp -implicitDefEqProofs only [go_sem]
    by_cases e0 : a.e = 0
    · have b0 : decide (a.e = 0) = true := decide_eq_true e0
      simp -implicitDefEqProofs only [go_sem, b0]
      refine at_call tDTake (takeNS (x := x) hok.1 e0 hm) ?_
      obtain ⟨t, tf⟩ := tk_ok hok.1 hok.2 e0
      by_cases hb : (tkP a).1 = true
      · have hb0 := b0
        have hm2 : ¬(tkP a).2.made.size = 0 := by have := t.made; omega
        rw [hb]
        unfold patC
        simp -implicitDefEqProofs only [go_sem, hb0]
        refine kLoop_mk (tkP a).2 ⟨t.ok, tf, (run_step hok.1 hok.2 e0 hb).symm.trans hQ, hm2⟩ (mu_lt hok.1 hok.2 e0 hb) ?_
        unfold hN patC
        refine sub_mk [(5, 7), (6, 8)] rfl rfl rfl ?_
        simp only [tmSub, hpSub, objSub, eqTm, eqHp, rn, lk, SV.ren, SV.renC, SV.renB, SV.renA, ren_ints, ren_strs, ren_pl, ren_svs, SV.v.injEq, Value.int.injEq, Body.ints.injEq, SV.ptr.injEq, SV.sl.injEq, Value.string.injEq, Value.bool.injEq, List.map_cons, List.map_nil, forall_const, Nat.reduceLT, Nat.lt_add_one, imp_self, true_and, and_true, and_self, ob_some, get_mk, lk_cons, ↓reduceIte, Nat.reduceEqDiff, ne_eq, not_true_eq_false, not_false_eq_true, Nat.one_ne_zero, Nat.zero_ne_one, Nat.succ_ne_self, Nat.reduceAdd, Bool.false_eq_true, false_implies, implies_true, reduceCtorEq]
        repeat' (first | rfl | apply And.intro)
      have hb' : (tkP a).1 = false := by simpa using hb
      have hr : runP a = a := run_stop hb'
      rw [hb', t.fl hb']
      unfold patC
      rw [← hQ, hr]
      have mn2 : min (a.seen : Int) 16385 = ((min a.seen 16385 : Nat) : Int) := by omega
      by_cases e1 : 16384 < a.seen
      · have b1 : decide ((a.seen : Int) > 16384) = true := decide_eq_true (by omega)
        have eo : outP a = { a with e := 4, seen := min a.seen 16385 } := by unfold outP; rw [if_pos ⟨e0, e1⟩]
        simp -implicitDefEqProofs only [go_sem, b0, b1, mn2]
        rw [eo]
        unfold hM patC
        refine sub_mk [(5, 7), (6, 8)] rfl rfl rfl ?_
        simp only [tmSub, hpSub, objSub, eqTm, eqHp, rn, lk, SV.ren, SV.renC, SV.renB, SV.renA, ren_ints, ren_strs, ren_pl, ren_svs, SV.v.injEq, Value.int.injEq, Body.ints.injEq, SV.ptr.injEq, SV.sl.injEq, Value.string.injEq, Value.bool.injEq, List.map_cons, List.map_nil, forall_const, Nat.reduceLT, Nat.lt_add_one, imp_self, true_and, and_true, and_self, ob_some, get_mk, lk_cons, ↓reduceIte, Nat.reduceEqDiff, ne_eq, not_true_eq_false, not_false_eq_true, Nat.one_ne_zero, Nat.zero_ne_one, Nat.succ_ne_self, Nat.reduceAdd, Bool.false_eq_true, false_implies, implies_true, reduceCtorEq]
        repeat' (first | rfl | apply And.intro)
      have b1 : decide ((a.seen : Int) > 16384) = false := decide_eq_false (by omega)
      have eo : outP a = { a with e := a.e, seen := min a.seen 16385 } := by unfold outP; rw [if_neg (fun h => e1 h.2)]
      simp -implicitDefEqProofs only [go_sem, b0, b1, mn2]
      rw [eo]
      unfold hM patC
      refine sub_mk [(5, 7), (6, 8)] rfl rfl rfl ?_
      simp only [tmSub, hpSub, objSub, eqTm, eqHp, rn, lk, SV.ren, SV.renC, SV.renB, SV.renA, ren_ints, ren_strs, ren_pl, ren_svs, SV.v.injEq, Value.int.injEq, Body.ints.injEq, SV.ptr.injEq, SV.sl.injEq, Value.string.injEq, Value.bool.injEq, List.map_cons, List.map_nil, forall_const, Nat.reduceLT, Nat.lt_add_one, imp_self, true_and, and_true, and_self, ob_some, get_mk, lk_cons, ↓reduceIte, Nat.reduceEqDiff, ne_eq, not_true_eq_false, not_false_eq_true, Nat.one_ne_zero, Nat.zero_ne_one, Nat.succ_ne_self, Nat.reduceAdd, Bool.false_eq_true, false_implies, implies_true, reduceCtorEq]
      repeat' (first | rfl | apply And.intro)
    have hr : runP a = a := run_err e0
    have bb : decide (a.e = 0) = false := decide_eq_false e0
    simp -implicitDefEqProofs only [go_sem, bb]

    rw [← hQ, hr]
    have mn2 : min (a.seen : Int) 16385 = ((min a.seen 16385 : Nat) : Int) := by omega
    have eo : outP a = { a with e := a.e, seen := min a.seen 16385 } := by unfold outP; rw [if_neg (fun h => e0 h.1)]
    simp -implicitDefEqProofs only [go_sem, bb, mn2]
    rw [eo]
    unfold hM patC
    refine sub_mk [] rfl rfl rfl ?_
    simp only [tmSub, hpSub, objSub, eqTm, eqHp, rn, lk, SV.ren, SV.renC, SV.renB, SV.renA, ren_ints, ren_strs, ren_pl, ren_svs, SV.v.injEq, Value.int.injEq, Body.ints.injEq, SV.ptr.injEq, SV.sl.injEq, Value.string.injEq, Value.bool.injEq, List.map_cons, List.map_nil, forall_const, Nat.reduceLT, Nat.lt_add_one, imp_self, true_and, and_true, and_self, ob_some, get_mk, lk_cons, ↓reduceIte, Nat.reduceEqDiff, ne_eq, not_true_eq_false, not_false_eq_true, Nat.one_ne_zero, Nat.zero_ne_one, Nat.succ_ne_self, Nat.reduceAdd, Bool.false_eq_true, false_implies, implies_true, reduceCtorEq]
    repeat' (first | rfl | apply And.intro)
end
section
/- Delta: a piece is taken, where nothing was made yet. -/
set_option linter.unusedVariables false
set_option linter.unusedSimpArgs false
set_option maxRecDepth 100000
open Go.Proofs
variable {H : Hp} {n : Nat} {x : Nat → Option SO}
theorem writeE {p : Pt} {s : ByteArray} (hp : p.good) (hs : s.size ≤ 1073000000) (hm : p.made.size = 0) :
    fnVC CT mDWrite [.ptr 1 0, .v (.string s)] (hE p x) 3 fun v H' n' => Sub 3 ⟨[(0, .v (.int .i64 (wrP p s).1))], tkH (wrP p s).2 3 x, tkN (wrP p s).2 3⟩ ⟨[(0, v)], H', n'⟩ := by
  unfold mDWrite hE patC
  simp -implicitDefEqProofs only [↓fnVC, initTm]
  simp -implicitDefEqProofs only [go_sem]
  have ho := hp.ok.os
  have hw := hp.ok.ow
  have gs := hp.gs
  by_cases he : p.e = 0
  rotate_left
  · have b0 : decide (p.e = 0) = false := decide_eq_false he
    simp -implicitDefEqProofs only [go_sem, b0]
    rw [show wrP p s = (p.e, p) from if_pos he]
    rw [tkH_E (by exact hm), tkN_E (by exact hm)]
    unfold hE patC
    refine sub_mk [] rfl rfl rfl ?_
    simp only [tmSub, hpSub, objSub, eqTm, eqHp, rn, lk, SV.ren, SV.renC, SV.renB, SV.renA, ren_ints, ren_strs, ren_pl, ren_svs, SV.v.injEq, Value.int.injEq, Body.ints.injEq, SV.ptr.injEq, SV.sl.injEq, Value.string.injEq, Value.bool.injEq, List.map_cons, List.map_nil, forall_const, Nat.reduceLT, Nat.lt_add_one, imp_self, true_and, and_true, and_self, ob_some, get_mk, lk_cons, ↓reduceIte, Nat.reduceEqDiff, ne_eq, not_true_eq_false, not_false_eq_true, Nat.one_ne_zero, Nat.zero_ne_one, Nat.succ_ne_self, Nat.reduceAdd, Bool.false_eq_true, false_implies, implies_true, reduceCtorEq]
    repeat' (first | rfl | apply And.intro)
  obtain ⟨g1, g2⟩ := hp.g1 he
  have b0 : decide (p.e = 0) = true := decide_eq_true he
  simp -implicitDefEqProofs only [go_sem, b0]
  by_cases hc : p.closed = true
  · rw [show wrP p s = (3, p) by unfold wrP; rw [if_neg (fun h => h he), if_pos hc]]
    rw [hc]
    simp -implicitDefEqProofs only [go_sem, b0]
    rw [tkH_E (by exact hm), tkN_E (by exact hm)]
    unfold hE patC
    refine sub_mk [] rfl rfl rfl ?_
    simp only [tmSub, hpSub, objSub, eqTm, eqHp, rn, lk, SV.ren, SV.renC, SV.renB, SV.renA, ren_ints, ren_strs, ren_pl, ren_svs, SV.v.injEq, Value.int.injEq, Body.ints.injEq, SV.ptr.injEq, SV.sl.injEq, Value.string.injEq, Value.bool.injEq, List.map_cons, List.map_nil, forall_const, Nat.reduceLT, Nat.lt_add_one, imp_self, true_and, and_true, and_self, ob_some, get_mk, lk_cons, ↓reduceIte, Nat.reduceEqDiff, ne_eq, not_true_eq_false, not_false_eq_true, Nat.one_ne_zero, Nat.zero_ne_one, Nat.succ_ne_self, Nat.reduceAdd, Bool.false_eq_true, false_implies, implies_true, reduceCtorEq]
    rw [hc]
    repeat' (first | rfl | apply And.intro)
  have hc' : p.closed = false := by simpa using hc
  rw [show wrP p s = ((outP (runP (inP p s))).e, outP (runP (inP p s))) by unfold wrP; rw [if_neg (fun h => h he), if_neg hc]]
  rw [hc']
  have w1 : IntKind.i64.wrap (16384 - (p.seen : Int)) = ((16384 - p.seen : Nat) : Int) := by rw [wrap_i64 (by omega) (by omega)]; omega
  have mn : min (s.size : Int) ((16384 - p.seen : Nat) : Int) = ((min s.size (16384 - p.seen) : Nat) : Int) := by omega
  have w2 : IntKind.i64.wrap ((p.seen : Int) + (s.size : Int)) = ((p.seen + s.size : Nat) : Int) := by rw [wrap_i64 (by omega) (by omega)]; omega
  have mk : min s.size (16384 - p.seen) ≤ s.size := Nat.min_le_left _ _
  have mk2 : min s.size (16384 - p.seen) ≤ 16384 - p.seen := Nat.min_le_right _ _
  simp -implicitDefEqProofs only [go_sem, b0, w1, mn, w2]
  refine ⟨⟨by omega, by omega⟩, by rw [ex_size]; omega, ?_⟩
  obtain ⟨iok, ifr⟩ := in_ok hp he hs
  generalize hQ0 : runP (inP p s) = Q
  refine loop_fam (fun a : Pt => a.ok ∧ a.fresh ∧ runP a = Q) (famE x) muP (inP p s) ⟨iok, ifr, hQ0⟩ ?_ ?_
  · rw [famE_E (by exact hm)]
    unfold hE patC
    refine sub_mk [] rfl rfl rfl ?_
    simp only [tmSub, hpSub, objSub, eqTm, eqHp, rn, lk, SV.ren, SV.renC, SV.renB, SV.renA, ren_ints, ren_strs, ren_pl, ren_svs, SV.v.injEq, Value.int.injEq, Body.ints.injEq, SV.ptr.injEq, SV.sl.injEq, Value.string.injEq, Value.bool.injEq, List.map_cons, List.map_nil, forall_const, Nat.reduceLT, Nat.lt_add_one, imp_self, true_and, and_true, and_self, ob_some, get_mk, lk_cons, ↓reduceIte, Nat.reduceEqDiff, ne_eq, not_true_eq_false, not_false_eq_true, Nat.one_ne_zero, Nat.zero_ne_one, Nat.succ_ne_self, Nat.reduceAdd, Bool.false_eq_true, false_implies, implies_true, reduceCtorEq]
    rw [show (inP p s).closed = false from hc']
    repeat' (first | rfl | apply And.intro)
  · rintro a ⟨ok1, ok2, hQ⟩
    have hok := And.intro ok1 ok2
    by_cases hm : a.made.size = 0
    · rw [famE_E hm]
      unfold hE patC
      simp -implicitDefEqProofs only [go_sem]
      by_cases e0 : a.e = 0
      · have b0 : decide (a.e = 0) = true := decide_eq_true e0
        simp -implicitDefEqProofs only [go_sem, b0]
        refine at_call tDTake (okT.spec tDTake (takeE (x := x) hok.1 e0 hm)) ?_
        obtain ⟨t, tf⟩ := tk_ok hok.1 hok.2 e0
        by_cases hb : (tkP a).1 = true
        · have hb0 := b0
          by_cases hm2 : (tkP a).2.made.size = 0
          · rw [tkH_E hm2, tkN_E hm2, hb]
            unfold hE patC
            simp -implicitDefEqProofs only [go_sem, hb0]
            refine kLoop_mk (tkP a).2 ⟨t.ok, tf, (run_step hok.1 hok.2 e0 hb).symm.trans hQ⟩ (mu_lt hok.1 hok.2 e0 hb) ?_
            rw [famE_E hm2]
            unfold hE patC
            refine sub_mk [] rfl rfl rfl ?_
            simp only [tmSub, hpSub, objSub, eqTm, eqHp, rn, lk, SV.ren, SV.renC, SV.renB, SV.renA, ren_ints, ren_strs, ren_pl, ren_svs, SV.v.injEq, Value.int.injEq, Body.ints.injEq, SV.ptr.injEq, SV.sl.injEq, Value.string.injEq, Value.bool.injEq, List.map_cons, List.map_nil, forall_const, Nat.reduceLT, Nat.lt_add_one, imp_self, true_and, and_true, and_self, ob_some, get_mk, lk_cons, ↓reduceIte, Nat.reduceEqDiff, ne_eq, not_true_eq_false, not_false_eq_true, Nat.one_ne_zero, Nat.zero_ne_one, Nat.succ_ne_self, Nat.reduceAdd, Bool.false_eq_true, false_implies, implies_true, reduceCtorEq]
            repeat' (first | rfl | apply And.intro)
          · rw [tkH_N hm2, tkN_N hm2, hb]
            unfold hN patC
            simp -implicitDefEqProofs only [go_sem, hb0]
            refine kLoop_mk (tkP a).2 ⟨t.ok, tf, (run_step hok.1 hok.2 e0 hb).symm.trans hQ⟩ (mu_lt hok.1 hok.2 e0 hb) ?_
            rw [famE_N hm2]
            unfold hN patC
            refine sub_mk [] rfl rfl rfl ?_
            simp only [tmSub, hpSub, objSub, eqTm, eqHp, rn, lk, SV.ren, SV.renC, SV.renB, SV.renA, ren_ints, ren_strs, ren_pl, ren_svs, SV.v.injEq, Value.int.injEq, Body.ints.injEq, SV.ptr.injEq, SV.sl.injEq, Value.string.injEq, Value.bool.injEq, List.map_cons, List.map_nil, forall_const, Nat.reduceLT, Nat.lt_add_one, imp_self, true_and, and_true, and_self, ob_some, get_mk, lk_cons, ↓reduceIte, Nat.reduceEqDiff, ne_eq, not_true_eq_false, not_false_eq_true, Nat.one_ne_zero, Nat.zero_ne_one, Nat.succ_ne_self, Nat.reduceAdd, Bool.false_eq_true, false_implies, implies_true, reduceCtorEq]
            repeat' (first | rfl | apply And.intro)
        have hb' : (tkP a).1 = false := by simpa using hb
        have hr : runP a = a := run_stop hb'
        rw [hb', t.fl hb']
        rw [tkH_E hm, tkN_E hm]
        unfold hE patC
        rw [← hQ, hr]
        have mn2 : min (a.seen : Int) 16385 = ((min a.seen 16385 : Nat) : Int) := by omega
        by_cases e1 : 16384 < a.seen
        · have b1 : decide ((a.seen : Int) > 16384) = true := decide_eq_true (by omega)
          have eo : outP a = { a with e := 4, seen := min a.seen 16385 } := by unfold outP; rw [if_pos ⟨e0, e1⟩]
          simp -implicitDefEqProofs only [go_sem, b0, b1, mn2]
          rw [eo]
          rw [tkH_E (by exact hm), tkN_E (by exact hm)]
          unfold hE patC
          refine sub_mk [] rfl rfl rfl ?_
          simp only [tmSub, hpSub, objSub, eqTm, eqHp, rn, lk, SV.ren, SV.renC, SV.renB, SV.renA, ren_ints, ren_strs, ren_pl, ren_svs, SV.v.injEq, Value.int.injEq, Body.ints.injEq, SV.ptr.injEq, SV.sl.injEq, Value.string.injEq, Value.bool.injEq, List.map_cons, List.map_nil, forall_const, Nat.reduceLT, Nat.lt_add_one, imp_self, true_and, and_true, and_self, ob_some, get_mk, lk_cons, ↓reduceIte, Nat.reduceEqDiff, ne_eq, not_true_eq_false, not_false_eq_true, Nat.one_ne_zero, Nat.zero_ne_one, Nat.succ_ne_self, Nat.reduceAdd, Bool.false_eq_true, false_implies, implies_true, reduceCtorEq]
          repeat' (first | rfl | apply And.intro)
        have b1 : decide ((a.seen : Int) > 16384) = false := decide_eq_false (by omega)
        have eo : outP a = { a with e := a.e, seen := min a.seen 16385 } := by unfold outP; rw [if_neg (fun h => e1 h.2)]
        simp -implicitDefEqProofs only [go_sem, b0, b1, mn2]
        rw [eo]
        rw [tkH_E (by exact hm), tkN_E (by exact hm)]
        unfold hE patC
        refine sub_mk [] rfl rfl rfl ?_
        simp only [tmSub, hpSub, objSub, eqTm, eqHp, rn, lk, SV.ren, SV.renC, SV.renB, SV.renA, ren_ints, ren_strs, ren_pl, ren_svs, SV.v.injEq, Value.int.injEq, Body.ints.injEq, SV.ptr.injEq, SV.sl.injEq, Value.string.injEq, Value.bool.injEq, List.map_cons, List.map_nil, forall_const, Nat.reduceLT, Nat.lt_add_one, imp_self, true_and, and_true, and_self, ob_some, get_mk, lk_cons, ↓reduceIte, Nat.reduceEqDiff, ne_eq, not_true_eq_false, not_false_eq_true, Nat.one_ne_zero, Nat.zero_ne_one, Nat.succ_ne_self, Nat.reduceAdd, Bool.false_eq_true, false_implies, implies_true, reduceCtorEq]
        repeat' (first | rfl | apply And.intro)
      have hr : runP a = a := run_err e0
      have bb : decide (a.e = 0) = false := decide_eq_false e0
      simp -implicitDefEqProofs only [go_sem, bb]

      rw [← hQ, hr]
      have mn2 : min (a.seen : Int) 16385 = ((min a.seen 16385 : Nat) : Int) := by omega
      have eo : outP a = { a with e := a.e, seen := min a.seen 16385 } := by unfold outP; rw [if_neg (fun h => e0 h.1)]
      simp -implicitDefEqProofs only [go_sem, bb, mn2]
      rw [eo]
      rw [tkH_E (by exact hm), tkN_E (by exact hm)]
      unfold hE patC
      refine sub_mk [] rfl rfl rfl ?_
      simp only [tmSub, hpSub, objSub, eqTm, eqHp, rn, lk, SV.ren, SV.renC, SV.renB, SV.renA, ren_ints, ren_strs, ren_pl, ren_svs, SV.v.injEq, Value.int.injEq, Body.ints.injEq, SV.ptr.injEq, SV.sl.injEq, Value.string.injEq, Value.bool.injEq, List.map_cons, List.map_nil, forall_const, Nat.reduceLT, Nat.lt_add_one, imp_self, true_and, and_true, and_self, ob_some, get_mk, lk_cons, ↓reduceIte, Nat.reduceEqDiff, ne_eq, not_true_eq_false, not_false_eq_true, Nat.one_ne_zero, Nat.zero_ne_one, Nat.succ_ne_self, Nat.reduceAdd, Bool.false_eq_true, false_implies, implies_true, reduceCtorEq]
      repeat' (first | rfl | apply And.intro)
    rw [famE_N hm]
    unfold hN patC
    simp -implicitDefEqProofs only [go_sem]
    by_cases e0 : a.e = 0
    · have b0 : decide (a.e = 0) = true := decide_eq_true e0
      simp -implicitDefEqProofs only [go_sem, b0]
      refine at_call tDTake (okT.spec tDTake (takeN (x := x) hok.1 e0 hm)) ?_
      obtain ⟨t, tf⟩ := tk_ok hok.1 hok.2 e0
      by_cases hb : (tkP a).1 = true
      · have hb0 := b0
        have hm2 : ¬(tkP a).2.made.size = 0 := by have := t.made; omega
        rw [hb]
        unfold hM patC
        simp -implicitDefEqProofs only [go_sem, hb0]
        refine kLoop_mk (tkP a).2 ⟨t.ok, tf, (run_step hok.1 hok.2 e0 hb).symm.trans hQ⟩ (mu_lt hok.1 hok.2 e0 hb) ?_
        rw [famE_N hm2]
        unfold hN patC
        refine sub_mk [(3, 5), (4, 6)] rfl rfl rfl ?_
        simp only [tmSub, hpSub, objSub, eqTm, eqHp, rn, lk, SV.ren, SV.renC, SV.renB, SV.renA, ren_ints, ren_strs, ren_pl, ren_svs, SV.v.injEq, Value.int.injEq, Body.ints.injEq, SV.ptr.injEq, SV.sl.injEq, Value.string.injEq, Value.bool.injEq, List.map_cons, List.map_nil, forall_const, Nat.reduceLT, Nat.lt_add_one, imp_self, true_and, and_true, and_self, ob_some, get_mk, lk_cons, ↓reduceIte, Nat.reduceEqDiff, ne_eq, not_true_eq_false, not_false_eq_true, Nat.one_ne_zero, Nat.zero_ne_one, Nat.succ_ne_self, Nat.reduceAdd, Bool.false_eq_true, false_implies, implies_true, reduceCtorEq]
        repeat' (first | rfl | apply And.intro)
      have hb' : (tkP a).1 = false := by simpa using hb
      have hr : runP a = a := run_stop hb'
      rw [hb', t.fl hb']
      unfold hM patC
      rw [← hQ, hr]
      have mn2 : min (a.seen : Int) 16385 = ((min a.seen 16385 : Nat) : Int) := by omega
      by_cases e1 : 16384 < a.seen
      · have b1 : decide ((a.seen : Int) > 16384) = true := decide_eq_true (by omega)
        have eo : outP a = { a with e := 4, seen := min a.seen 16385 } := by unfold outP; rw [if_pos ⟨e0, e1⟩]
        simp -implicitDefEqProofs only [go_sem, b0, b1, mn2]
        rw [eo]
        rw [tkH_N (by exact hm), tkN_N (by exact hm)]
        unfold hN patC
        refine sub_mk [(3, 5), (4, 6)] rfl rfl rfl ?_
        simp only [tmSub, hpSub, objSub, eqTm, eqHp, rn, lk, SV.ren, SV.renC, SV.renB, SV.renA, ren_ints, ren_strs, ren_pl, ren_svs, SV.v.injEq, Value.int.injEq, Body.ints.injEq, SV.ptr.injEq, SV.sl.injEq, Value.string.injEq, Value.bool.injEq, List.map_cons, List.map_nil, forall_const, Nat.reduceLT, Nat.lt_add_one, imp_self, true_and, and_true, and_self, ob_some, get_mk, lk_cons, ↓reduceIte, Nat.reduceEqDiff, ne_eq, not_true_eq_false, not_false_eq_true, Nat.one_ne_zero, Nat.zero_ne_one, Nat.succ_ne_self, Nat.reduceAdd, Bool.false_eq_true, false_implies, implies_true, reduceCtorEq]
        repeat' (first | rfl | apply And.intro)
      have b1 : decide ((a.seen : Int) > 16384) = false := decide_eq_false (by omega)
      have eo : outP a = { a with e := a.e, seen := min a.seen 16385 } := by unfold outP; rw [if_neg (fun h => e1 h.2)]
      simp -implicitDefEqProofs only [go_sem, b0, b1, mn2]
      rw [eo]
      rw [tkH_N (by exact hm), tkN_N (by exact hm)]
      unfold hN patC
      refine sub_mk [(3, 5), (4, 6)] rfl rfl rfl ?_
      simp only [tmSub, hpSub, objSub, eqTm, eqHp, rn, lk, SV.ren, SV.renC, SV.renB, SV.renA, ren_ints, ren_strs, ren_pl, ren_svs, SV.v.injEq, Value.int.injEq, Body.ints.injEq, SV.ptr.injEq, SV.sl.injEq, Value.string.injEq, Value.bool.injEq, List.map_cons, List.map_nil, forall_const, Nat.reduceLT, Nat.lt_add_one, imp_self, true_and, and_true, and_self, ob_some, get_mk, lk_cons, ↓reduceIte, Nat.reduceEqDiff, ne_eq, not_true_eq_false, not_false_eq_true, Nat.one_ne_zero, Nat.zero_ne_one, Nat.succ_ne_self, Nat.reduceAdd, Bool.false_eq_true, false_implies, implies_true, reduceCtorEq]
      repeat' (first | rfl | apply And.intro)
    have hr : runP a = a := run_err e0
    have bb : decide (a.e = 0) = false := decide_eq_false e0
    simp -implicitDefEqProofs only [go_sem, bb]

    rw [← hQ, hr]
    have mn2 : min (a.seen : Int) 16385 = ((min a.seen 16385 : Nat) : Int) := by omega
    have eo : outP a = { a with e := a.e, seen := min a.seen 16385 } := by unfold outP; rw [if_neg (fun h => e0 h.1)]
    simp -implicitDefEqProofs only [go_sem, bb, mn2]
    rw [eo]
    rw [tkH_N (by exact hm), tkN_N (by exact hm)]
    unfold hN patC
    refine sub_mk [] rfl rfl rfl ?_
    simp only [tmSub, hpSub, objSub, eqTm, eqHp, rn, lk, SV.ren, SV.renC, SV.renB, SV.renA, ren_ints, ren_strs, ren_pl, ren_svs, SV.v.injEq, Value.int.injEq, Body.ints.injEq, SV.ptr.injEq, SV.sl.injEq, Value.string.injEq, Value.bool.injEq, List.map_cons, List.map_nil, forall_const, Nat.reduceLT, Nat.lt_add_one, imp_self, true_and, and_true, and_self, ob_some, get_mk, lk_cons, ↓reduceIte, Nat.reduceEqDiff, ne_eq, not_true_eq_false, not_false_eq_true, Nat.one_ne_zero, Nat.zero_ne_one, Nat.succ_ne_self, Nat.reduceAdd, Bool.false_eq_true, false_implies, implies_true, reduceCtorEq]
    repeat' (first | rfl | apply And.intro)
end
end Go.Sx