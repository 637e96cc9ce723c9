/- Slots: spoilt ones. -/
import Derived.Test.YtcgglehgpmehcaaSlotB
import Derived.Test.YtcgglehgpmehcaaRows
import Derived.Test.YtcgglehgpmehcaaSxC

set_option linter.unusedVariables false
set_option linter.unusedSimpArgs false
set_option maxHeartbeats 2000000
set_option maxRecDepth 100000
namespace Go.Sx
attribute [local go_sem ↓] bind_mk intsB_mk strsB_mk svB_mk fnVC ob_some vc_skip vc_exit vc_ret vc_seq vc_block kSeq_normal kSeq_exit kSeq_ret kBlock_normal kBlock_exit kBlock_ret vc_reg vc_regD vc_cond condK_true condK_false vc_loop kLoop_exit kLoop_ret kRoll_normal kRoll_exit kRoll_ret vcOps_nil vcOps_cons gd_bool gd_undef put_some put_none vcT_fin vcT_pure vcT_act vcT_acts vcT_stop stab_none stab_some stabM_nil stabM_cons stabO_ld stabO_ldn stabO_slP stabO_b2s fldOf_ai fldOf_agg fldOf_ait fldOf_aggt intsOf_nil intsOf_cons strsOf_nil strsOf_cons c_omap ob_if lk_nil lk_cons ev_t ev_k z_mov z_pick z_bin z_binB z_binP z_un z_r2s z_conv z_s2b z_b2s z_allocT aggOf_mk z_boxT z_alloc z_bld z_bldI z_rowI z_rowS z_ld z_ldn z_st z_stn asN_ptr asN_fn z_nilck z_fld z_fadr z_idxA z_idxP z_idxS z_idxV z_slS z_slL z_slP z_mk z_lenS z_lenL z_app appC_ints appC_pl appC_sv appC_strs isS_strs loose_ints loose_pl loose_sv z_slM z_callv callvK_fn callvK_f callvK_yl vc_rangeF rfEnd_eq rfGo_none rfGo_ret rfGo_exit yGo_mk yEnd_n yEnd_r yEnd_e yRdy_mk yMid_n putPs_nil putPs_cons leaf_v leaf_ptr leaf_sl leaf_yl leaf_mp z_appS z_appST z_appZ z_cpyS z_mkfn reps_int reps_str z_rowV z_slnil nilK_zero z_cpy z_call asT_tup z_extT z_box boxOf_ai boxOf_agg boxOf_int boxOf_str boxOf_bool boxOf_ptr boxOf_sl sbin_int sbin_str sbinB_mk sbinP_nn sbinP_pn sbinP_np i_add i_sub i_mul i_quo i_rem i_and i_or i_xor i_andNot i_shl i_shr i_eql i_neq i_lss i_leq i_gtr i_geq st_add st_eql st_neq st_lss st_leq st_gtr st_geq bo_eql bo_neq pt_eql pt_neq un_neg un_xor un_not asI_mk asB_mk asS_mk asP_mk asSl_mk asBy_mk bnd_none bnd_some get_mk hput_mk hdel_mk kill_eq wrOf_eq rowOf_eq rsvs_0 rsvs_1 rsvs_2 rsvs_3 rsv_t rsv_c1 rsv_cn nt_v nt_ptr nt_sl nt_agg nt_ai get_ints get_strs get_pl get_sv getN_ints getN_sv set_ints set_strs set_sv setN_ints setN_sv part_ints part_strs part_sv cat_ints cat_strs cat_sv over_ints over_strs over_sv ones_ints ones_strs evs_nil evs_cons condK_eqt condK_eqf det_callP V_ns V_nn V_gs V_gn obC_mk fresh_ev freshT_ev freshR_ev setN_plagg setN_intsv setN_svai setN_svagg over_intsv set_pl setN_pl setN_plai getN_pl getN_strs part_pl cat_pl over_pl over_plints z_mm
attribute [local go_sem] initTm ne_eq not_true_eq_false not_false_eq_true true_and and_true List.length_cons List.length_nil Int.toNat_natCast Nat.add_zero Nat.zero_add Nat.mul_one List.getElem?_cons_zero List.drop_zero List.take_length List.take_succ_cons List.take_zero List.take_nil List.drop_succ_cons Option.map_some Nat.le_refl implies_true List.getElem?_cons_succ decide_true decide_false Bool.not_true Bool.not_false beq_self_eq_true Nat.succ_ne_self Nat.one_ne_zero Nat.zero_ne_one vk_mk hk_mk nk_mk tok_eq plsOf_map intsOf_map bodyOf_pl bodyOf_ints bodyOf_strs bodyOf_sv part_aggv part_agg part_ai part_int part_str part_bool part_sl part_ptr part_nil numsOf_map u_int u_str u_bool u_pnil u_sl u_ptr u_oci u_ocs evq_nil evq_cons fillS_nil fillS_cons u_ocb ones_pl cells_sv cells_ints cells_strs cells_pl smms_nil smms_cons smm_min smm_max plsOf_nil List.nil_append List.all_cons List.all_nil Bool.and_self Bool.true_and Bool.and_true zws_len zw_len zi_len List.set_cons_zero List.set_cons_succ List.flatMap_cons List.flatMap_nil List.append_nil
section
open Go.Proofs
variable {H : Hp} {n : Nat} {x : Nat → Option SO} {d d' : Fd} {i a b c : Nat} {u1 u2 u3 : Bool}

def spI (X : ByteArray) (m : Nat) : ByteArray := (⟨#[105]⟩ : ByteArray) ++ X.extract 0 (min X.size m)
theorem spI_size {X : ByteArray} {m : Nat} : 1 ≤ (spI X m).size ∧ (spI X m).size ≤ m + 1 := by
  unfold spI
  rw [ByteArray.size_append, ByteArray.size_extract]
  have : (⟨#[105]⟩ : ByteArray).size = 1 := rfl
  omega
end
end Go.Sx
/- Slots: structs that came in. -/
set_option linter.unusedVariables false
set_option linter.unusedSimpArgs false
set_option maxRecDepth 100000
namespace Go.Sx
open Go.Proofs Go.ChangeShapes Go.WideShapes Go.ChangeAt Go.RowKit
variable {H : Type} {enc : TypeId × Value → H} {W : World}

theorem u8_lt {p : Int} (h : (Lit.int .u8 p).wf = true) : ∃ k : Nat, p = k ∧ k < 256 := by
  simp [Lit.wf, IntKind.min, IntKind.max, IntKind.signed, IntKind.bits] at h
  exact ⟨p.toNat, by omega, by omega⟩
theorem new_cells {fuel : Nat} {cs : List Value} {x : DataW H × List MemPlace} (h : DataW.trod enc Try.prog W 0 (fun _ => true) true fuel 23 cs = some x) :
    ∃ (V : Nat) (X : ByteArray), cs = [.int .u8 V, .string X] ∧ V < 256 := by
  obtain ⟨xs, n, rfl, hx, hl, hxl, hf⟩ := DataW.trod_struct Try.underlying23 h
  have h0 := hf 0 { name := "Version", type := 5, offset := 0, embedded := false, tag := "", pkgPath := "", byteOffset := 0 } rfl
  have h1 := hf 1 { name := "Image", type := 9, offset := 1, embedded := false, tag := "", pkgPath := "", byteOffset := 8 } rfl
  have c5 : Try.prog.cellsOf 5 = 1 := by kernel_rfl
  have c9 : Try.prog.cellsOf 9 = 1 := by kernel_rfl
  have c23 : Try.prog.cellsOf 23 = 2 := by kernel_rfl
  rw [c23] at hl
  match cs, hl with
  | [a, b], _ =>
    match xs, hxl with
    | [y0, y1], _ =>
      simp only [c5, c9, List.drop_succ_cons, List.drop_zero, List.take_succ_cons, List.take_zero, List.getElem?_cons_succ, List.getElem?_cons_zero] at h0 h1
      obtain ⟨M, e0, rfl, hM⟩ := DataW.trod_int Try.underlying5 h0
      obtain ⟨old, e1, rfl, _⟩ := DataW.trod_string Try.underlying9 h1
      simp only [List.cons.injEq, and_true] at e0 e1
      subst e0; subst e1
      obtain ⟨k, rfl, hk⟩ := u8_lt hM
      exact ⟨k, old, rfl, hk⟩
end Go.Sx

/- Slots: slices of calls (Op) that came in. -/
set_option linter.unusedVariables false
set_option linter.unusedSimpArgs false
set_option maxRecDepth 100000
namespace Go.Sx
open Go.Proofs Go.ChangeShapes Go.WideShapes Go.ChangeAt Go.RowKit Go.Deep
variable {H : Type} {enc : TypeId × Value → H} {W : World}

theorem fate_cells {fuel : Nat} {cs : List Value} {x : DataW H × List MemPlace} (h : DataW.trod enc Try.prog W 0 (fun _ => true) true fuel 53 cs = some x) :
    ∃ (kv : Value) (n : Nat) (y : DataW H × List MemPlace), cs = [kv] ∧ DataW.trod enc Try.prog W 0 (fun _ => true) true n 51 [kv] = some y := by
  obtain ⟨xs', n', rfl, rfl, hl', hxl', hf'⟩ := DataW.trod_struct Try.underlying53 h
  have h4 := hf' 0 { name := "Keep", type := 51, offset := 0, embedded := false, tag := "", pkgPath := "", byteOffset := 0 } rfl
  have c51 : Try.prog.cellsOf 51 = 1 := by kernel_rfl
  have c53 : Try.prog.cellsOf 53 = 1 := by kernel_rfl
  rw [c53] at hl'
  match cs, hl' with
  | [a], _ =>
    simp only [c51, List.drop_zero, List.take_succ_cons, List.take_zero] at h4
    obtain ⟨y4, g4⟩ : ∃ y, xs'[0]? = some y := ⟨_, List.getElem?_eq_getElem (by rw [hxl']; decide)⟩
    rw [g4] at h4
    exact ⟨a, _, _, rfl, h4⟩
/-- A slice of numbers that lies in a cell. -/
structure KV (W : World) (l : Loc) (zs : List Int) (m : Nat) (kv : Value) : Prop where
  row : ∀ ρ, ObjOK ρ W l ⟨false, .ints .i64 zs⟩
  live : ∀ k, l.blk = some k → k < W.heap.size
  sl : slrel l 0 m 1 kv
  len : m ≤ zs.length
  sh : l.sh = none
theorem in_kv {fuel : Nat} {kv : Value} {y : DataW H × List MemPlace} (h0 : DataW.trod enc Try.prog W 0 (fun _ => true) true fuel 51 [kv] = some y) : ∃ l zs m, KV W l zs m kv := by
  rcases open_ints Try.underlying51 Try.underlying3 (by kernel_rfl) h0 with ⟨hcs, hx⟩ | ⟨a, len, cap, zs, hcs, _, hl, hm, hz, hx, hcell, hws⟩
  · cases hcs
    exact ⟨⟨none, 0, 0, false, none⟩, [], 0, fun ρ => ⟨rfl, exOK_ro rfl⟩, fun k hk => (by cases hk), ⟨rfl, .inl rfl⟩, Nat.le_refl _, rfl⟩
  · cases hcs
    replace hz : zs.length = cap := by simpa using hz
    by_cases h00 : cap = 0
    · subst h00
      have : len = 0 := by omega
      subst this
      exact ⟨⟨none, 0, 1, false, none⟩, [], 0, fun ρ => ⟨rfl, exOK_ro rfl⟩, fun k hk => (by cases hk), ⟨rfl, .inr ⟨by decide, a, rfl⟩⟩, Nat.le_refl _, rfl⟩
    · have hc0 := hcell 0 (by omega)
      have hs : a.spot = none := by
        have := World.cell?_spot hc0
        simpa [Addr.add] using this
      obtain ⟨c, T, fr, hb⟩ : ∃ c T fr, W.heap[a.block]? = some (.cells c T fr) := by
        have e : a.add 0 = a := by simp [Addr.add]
        rw [e] at hc0
        unfold World.cell? at hc0
        split at hc0
        · rename_i c T fr hb; exact ⟨c, T, fr, hb⟩
        · cases hc0
      have hsz : a.off + zs.length ≤ c.size := by
        have := hcell (zs.length - 1) (by omega)
        rw [cell_at hs hb] at this
        have := (Array.getElem?_eq_some_iff.1 this).1
        omega
      refine ⟨⟨some a.block, a.off, cap, false, none⟩, zs, len, fun ρ => ⟨?_, exOK_ro rfl⟩, fun k hk => (by cases hk; exact (Array.getElem?_eq_some_iff.1 hb).1), ?_, by omega, rfl⟩
      · refine ⟨c, T, fr, hb, by simp only; omega, by simp [Body.cells, hz], ?_, fun h => by cases h⟩
        intro j x hj
        simp only [Body.cells, List.getElem?_map] at hj
        have hj' : j < zs.length := by
          cases hq : zs[j]? with
          | none => rw [hq] at hj; cases hj
          | some q => exact (List.getElem?_eq_some_iff.1 hq).1
        refine ⟨.int .i64 (zs.getD j 0), by rw [← cell_at hs hb]; exact hcell j hj', ?_⟩
        rw [List.getElem?_eq_getElem hj'] at hj
        simp only [Option.map_some, Option.some.injEq] at hj
        subst hj
        simp [crel, arel, List.getD_eq_getElem?_getD, List.getElem?_eq_getElem hj']
      · refine ⟨cap, a.off, hl, ⟨by simp, fun e => by cases e⟩, fun h => by simp, ?_⟩
        cases a; cases hs; rfl
/-- A call that came in. -/
structure OpV where
  u : Int
  k : Int
  v : Int
  a : Int
  s : ByteArray
  zs : List Int
  m : Nat
/-- Its numbers. -/
def OpV.rng (o : OpV) : Prop := (0 ≤ o.u ∧ o.u ≤ 255) ∧ (-9223372036854775808 ≤ o.k ∧ o.k ≤ 9223372036854775807) ∧ (-9223372036854775808 ≤ o.v ∧ o.v ≤ 9223372036854775807) ∧ -9223372036854775808 ≤ o.a ∧ o.a ≤ 9223372036854775807
/-- The cells of the calls of a slice. -/
structure OpsIn (W : World) (v : Value) (ops : List OpV) (m : Nat) (lf : Nat → Loc) : Prop where
  lem : m ≤ ops.length
  rng : ∀ j, j < ops.length → (ops.getD j ⟨0, 0, 0, 0, .empty, [], 0⟩).rng
  sh : ∀ j, (lf j).sh = none
  ok : ∃ vs : List Value, vs.length = ops.length * 6 ∧ (∀ j, j < ops.length → ∃ kv, (vs.drop (j * 6)).take 6 = [.int .u8 (ops.getD j ⟨0, 0, 0, 0, .empty, [], 0⟩).u, .int .i64 (ops.getD j ⟨0, 0, 0, 0, .empty, [], 0⟩).k, .int .i64 (ops.getD j ⟨0, 0, 0, 0, .empty, [], 0⟩).v, .int .i64 (ops.getD j ⟨0, 0, 0, 0, .empty, [], 0⟩).a, .string (ops.getD j ⟨0, 0, 0, 0, .empty, [], 0⟩).s, kv] ∧
      KV W (lf j) (ops.getD j ⟨0, 0, 0, 0, .empty, [], 0⟩).zs (ops.getD j ⟨0, 0, 0, 0, .empty, [], 0⟩).m kv) ∧
    ((v = .slice none 0 0 ∧ ops = [] ∧ m = 0) ∨ ∃ a c T fr, v = .slice (some a) m ops.length ∧ a.spot = none ∧ W.heap[a.block]? = some (.cells c T fr) ∧ ∀ i, i < vs.length → W.cell? (a.add i) = vs[i]?)
/-- What lies outside: the slices in the calls (A: which argument), and the arguments' rows (behind A = 3). -/
def argX (opsA : Nat → List OpV) (rb : Nat → Option Body) (i : Nat) : Option SO :=
  if i < 1000 then none else if (i - 1000) % 4 = 3 then (rb ((i - 1000) / 4)).map (fun b => ⟨false, b⟩)
  else if (i - 1000) / 4 < (opsA ((i - 1000) % 4)).length then some ⟨false, .ints .i64 ((opsA ((i - 1000) % 4)).getD ((i - 1000) / 4) ⟨0, 0, 0, 0, .empty, [], 0⟩).zs⟩ else none
def argR (lfA : Nat → Nat → Loc) (lr : Nat → Loc) (i : Nat) : Loc := if i < 1000 then ⟨none, 0, 0, false, none⟩ else if (i - 1000) % 4 = 3 then lr ((i - 1000) / 4) else lfA ((i - 1000) % 4) ((i - 1000) / 4)
theorem argX_row {opsA : Nat → List OpV} {rb : Nat → Option Body} {j : Nat} {b : Body} (h : rb j = some b) : argX opsA rb (1003 + 4 * j) = some ⟨false, b⟩ := by
  unfold argX
  rw [if_neg (by omega), show (1003 + 4 * j - 1000) / 4 = j by omega, if_pos (by omega), h]; rfl
theorem argR_row {lfA : Nat → Nat → Loc} {lr : Nat → Loc} {j : Nat} : argR lfA lr (1003 + 4 * j) = lr j := by
  unfold argR
  rw [if_neg (by omega), show (1003 + 4 * j - 1000) / 4 = j by omega, if_pos (by omega)]
theorem hrel_args {opsA : Nat → List OpV} {lfA : Nat → Nat → Loc} {vA : Nat → Value} {mA : Nat → Nat} {rb : Nat → Option Body} {lr : Nat → Loc} (h : ∀ A, A < 3 → OpsIn W (vA A) (opsA A) (mA A) (lfA A))
    (hr : ∀ j b, rb j = some b → b.lt 1 = true ∧ (∀ k, (lr j).blk = some k → k < W.heap.size) ∧ ObjOK (argR lfA lr) W (lr j) ⟨false, b⟩) (hsh : ∀ j, (lr j).sh = none) (hsf : ∀ A j, (lfA A j).sh = none) :
    HRel (· < W.heap.size) W (argR lfA lr) 1 ⟨[], argX opsA rb⟩ W := by
  have hx : ∀ i s, argX opsA rb i = some s → 1000 ≤ i ∧ s.wr = false ∧ s.b.lt 1 = true ∧ ObjOK (argR lfA lr) W (argR lfA lr i) s ∧ ∀ k, (argR lfA lr i).blk = some k → k < W.heap.size := by
    intro i s hs
    unfold argX at hs
    split at hs
    · cases hs
    · rename_i hi
      split at hs
      · rename_i h3
        rw [Option.map_eq_some_iff] at hs
        obtain ⟨b, hb, rfl⟩ := hs
        obtain ⟨e1, e2, e3⟩ := hr _ b hb
        have e : argR lfA lr i = lr ((i - 1000) / 4) := by unfold argR; rw [if_neg hi, if_pos h3]
        rw [e]
        exact ⟨by omega, rfl, e1, e3, e2⟩
      · rename_i h3
        split at hs
        · rename_i hj
          cases hs
          obtain ⟨vs, _, hv, _⟩ := (h ((i - 1000) % 4) (by have := Nat.mod_lt (i - 1000) (by decide : 0 < 4); omega)).ok
          obtain ⟨kv, _, hk⟩ := hv _ hj
          have e : argR lfA lr i = lfA ((i - 1000) % 4) ((i - 1000) / 4) := by unfold argR; rw [if_neg hi, if_neg h3]
          rw [e]
          exact ⟨by omega, rfl, rfl, hk.row _, hk.live⟩
        · cases hs
  have hg : ∀ i, Hp.get ⟨[], argX opsA rb⟩ i = argX opsA rb i := fun i => rfl
  refine { os := rfl, tape := rfl, output := rfl, size := Nat.le_refl _, keep := fun _ _ => rfl, old := fun _ h => h, nil := ⟨rfl, rfl⟩, pos := by omega, obj := ?_, lt := ?_, own := ?_, inj := ?_, live := ?_, xok := ?_, shk := ShKeep.refl _, shp := fun i T c b e1 _ => (by
    unfold argR at e1
    split at e1
    · cases e1
    split at e1
    · rw [hsh] at e1; cases e1
    · rw [hsf] at e1; cases e1) }
  · exact fun i s hs => (hx i s (hg i ▸ hs)).2.2.2.1
  · intro i s hs
    obtain ⟨h1, _, h2, _, _⟩ := hx i s (hg i ▸ hs)
    exact ⟨by unfold idOK; simp; omega, h2⟩
  · intro i s b hs hw
    rw [(hx i s (hg i ▸ hs)).2.1] at hw; cases hw
  · intro i j s s' b _ hs _ hw
    rw [(hx i s (hg i ▸ hs)).2.1] at hw; cases hw
  · exact fun i s b hs hb => (hx i s (hg i ▸ hs)).2.2.2.2 b hb
  · intro i s hs
    obtain ⟨h1, h2, h3, _, _⟩ := hx i s hs
    exact ⟨h1, h2, h3, rfl⟩
end Go.Sx
