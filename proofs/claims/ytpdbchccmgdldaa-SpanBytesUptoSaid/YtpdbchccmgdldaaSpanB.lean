/- How many bits a word has. -/
import Derived.Test.YtpdbchccmgdldaaPackA

set_option linter.unusedVariables false
set_option linter.unusedSimpArgs false
set_option maxRecDepth 100000
namespace Go.Sx
open Go.Proofs
variable {H : Hp} {n : Nat} {x : Nat → Option SO}

def vl : List Nat → Nat
  | [] => 0
  | b :: r => b + 256 * vl r
def ms (m : Nat) : Nat → Nat
  | 0 => 0
  | k + 1 => m + 256 * ms m k
theorem and_split (u m m' : Nat) (hm : m < 256) : u &&& (m + 256 * m') = (u % 256 &&& m) + 256 * (u / 256 &&& m') := by
  have h1 : (u &&& (m + 256 * m')) % 2 ^ 8 = (u % 2 ^ 8 &&& (m + 256 * m') % 2 ^ 8) := Nat.and_mod_two_pow
  have h2 : (u &&& (m + 256 * m')) / 2 ^ 8 = (u / 2 ^ 8 &&& (m + 256 * m') / 2 ^ 8) := Nat.and_div_two_pow
  have e1 : (m + 256 * m') % 2 ^ 8 = m := by omega
  have e2 : (m + 256 * m') / 2 ^ 8 = m' := by omega
  rw [e1] at h1; rw [e2] at h2
  have := Nat.div_add_mod (u &&& (m + 256 * m')) (2 ^ 8)
  rw [h1, h2] at this
  have p : (2 : Nat) ^ 8 = 256 := rfl
  rw [p] at this
  omega
def bA (b : Nat) : Nat := (b / 2 &&& 85) + (b &&& 85)
def bB (b : Nat) : Nat := (b / 4 &&& 51) + (b &&& 51)
def bC (b : Nat) : Nat := (b / 16 + b) % 16
def s8 (b : Nat) : Nat := b % 2 + b / 2 % 2 + b / 4 % 2 + b / 8 % 2 + b / 16 % 2 + b / 32 % 2 + b / 64 % 2 + b / 128 % 2
def chkA : Bool := (List.range 256).all fun b => (List.range 2).all fun t => ((b / 2 + 128 * t) &&& 85) == (b / 2 &&& 85)
def chkB : Bool := (List.range 256).all fun b => (List.range 4).all fun t => ((b / 4 + 64 * t) &&& 51) == (b / 4 &&& 51)
def chkC : Bool := (List.range 256).all fun b => (List.range 5).all fun t => ((b / 16 + 16 * t + b) &&& 15) == bC b
def chkD : Bool := (List.range 256).all fun b => bC (bB (bA b)) == s8 b && decide (bA b < 256) && decide (bB (bA b) % 16 ≤ 4) && decide (bB (bA b) / 16 ≤ 4) && decide (s8 b ≤ 8)
theorem chkA_t : chkA = true := by kernel_rfl
theorem chkB_t : chkB = true := by kernel_rfl
theorem chkC_t : chkC = true := by kernel_rfl
theorem chkD_t : chkD = true := by kernel_rfl
theorem kA {b t : Nat} (hb : b < 256) (ht : t < 2) : (b / 2 + 128 * t) &&& 85 = b / 2 &&& 85 := by
  have h := chkA_t
  simp only [chkA, List.all_eq_true, List.mem_range, beq_iff_eq] at h
  exact h b hb t ht
theorem kB {b t : Nat} (hb : b < 256) (ht : t < 4) : (b / 4 + 64 * t) &&& 51 = b / 4 &&& 51 := by
  have h := chkB_t
  simp only [chkB, List.all_eq_true, List.mem_range, beq_iff_eq] at h
  exact h b hb t ht
theorem kC {b t : Nat} (hb : b < 256) (ht : t < 5) : (b / 16 + 16 * t + b) &&& 15 = bC b := by
  have h := chkC_t
  simp only [chkC, List.all_eq_true, List.mem_range, beq_iff_eq] at h
  exact h b hb t ht
theorem kD {b : Nat} (hb : b < 256) : bC (bB (bA b)) = s8 b ∧ bA b < 256 ∧ bB (bA b) % 16 ≤ 4 ∧ bB (bA b) / 16 ≤ 4 ∧ s8 b ≤ 8 := by
  have h := chkD_t
  simp only [chkD, List.all_eq_true, List.mem_range, Bool.and_eq_true, beq_iff_eq, decide_eq_true_eq] at h
  obtain ⟨⟨⟨⟨a, b⟩, c⟩, d⟩, e⟩ := h b hb
  exact ⟨a, b, c, d, e⟩
abbrev allB (bs : List Nat) : Prop := ∀ b ∈ bs, b < 256
theorem stA : ∀ {bs : List Nat}, allB bs → (vl bs / 2 &&& ms 85 bs.length) + (vl bs &&& ms 85 bs.length) = vl (bs.map bA)
  | [], _ => rfl
  | b :: r, h => by
    have hb := h b (by simp)
    have ih := stA (bs := r) (fun c hc => h c (by simp [hc]))
    have e1 : (b + 256 * vl r) / 2 % 256 = b / 2 + 128 * (vl r % 2) := by omega
    have e2 : (b + 256 * vl r) / 2 / 256 = vl r / 2 := by omega
    have e3 : (b + 256 * vl r) % 256 = b := by omega
    have e4 : (b + 256 * vl r) / 256 = vl r := by omega
    show ((b + 256 * vl r) / 2 &&& (85 + 256 * ms 85 r.length)) + ((b + 256 * vl r) &&& (85 + 256 * ms 85 r.length)) = bA b + 256 * vl (r.map bA)
    rw [and_split _ _ _ (by decide), and_split _ _ _ (by decide), e1, e2, e3, e4, kA hb (by omega), ← ih]
    unfold bA; omega
theorem stB : ∀ {bs : List Nat}, allB bs → (vl bs / 4 &&& ms 51 bs.length) + (vl bs &&& ms 51 bs.length) = vl (bs.map bB)
  | [], _ => rfl
  | b :: r, h => by
    have hb := h b (by simp)
    have ih := stB (bs := r) (fun c hc => h c (by simp [hc]))
    have e1 : (b + 256 * vl r) / 4 % 256 = b / 4 + 64 * (vl r % 4) := by omega
    have e2 : (b + 256 * vl r) / 4 / 256 = vl r / 4 := by omega
    have e3 : (b + 256 * vl r) % 256 = b := by omega
    have e4 : (b + 256 * vl r) / 256 = vl r := by omega
    show ((b + 256 * vl r) / 4 &&& (51 + 256 * ms 51 r.length)) + ((b + 256 * vl r) &&& (51 + 256 * ms 51 r.length)) = bB b + 256 * vl (r.map bB)
    rw [and_split _ _ _ (by decide), and_split _ _ _ (by decide), e1, e2, e3, e4, kB hb (by omega), ← ih]
    unfold bB; omega
theorem stC : ∀ {bs : List Nat}, (∀ b ∈ bs, b % 16 ≤ 4 ∧ b / 16 ≤ 4) → (vl bs / 16 + vl bs) &&& ms 15 bs.length = vl (bs.map bC)
  | [], _ => rfl
  | b :: r, h => by
    have hb := h b (by simp)
    have ih := stC (bs := r) (fun c hc => h c (by simp [hc]))
    have hv : vl r % 16 ≤ 4 := by
      cases r with
      | nil => show 0 % 16 ≤ 4; decide
      | cons c r => have := (h c (by simp)).1; show (c + 256 * vl r) % 16 ≤ 4; omega
    have e1 : ((b + 256 * vl r) / 16 + (b + 256 * vl r)) % 256 = b / 16 + 16 * (vl r % 16) + b := by omega
    have e2 : ((b + 256 * vl r) / 16 + (b + 256 * vl r)) / 256 = vl r / 16 + vl r := by omega
    show ((b + 256 * vl r) / 16 + (b + 256 * vl r)) &&& (15 + 256 * ms 15 r.length) = bC b + 256 * vl (r.map bC)
    rw [and_split _ _ _ (by decide), e1, e2, kC (by omega) (by omega), ih]
theorem pop_byte {b v : Nat} (hb : b < 256) : pop (b + 256 * v) = s8 b + pop v := by
  have h0 := pop_step (b + 256 * v)
  have e0 : (b + 256 * v) / 2 = b / 2 + 128 * v := by omega
  rw [e0] at h0
  have m0 : (b + 256 * v) % 2 = b % 2 := by omega
  rw [m0] at h0
  have h1 := pop_step (b / 2 + 128 * v)
  have e1 : (b / 2 + 128 * v) / 2 = b / 4 + 64 * v := by omega
  rw [e1] at h1
  have m1 : (b / 2 + 128 * v) % 2 = b / 2 % 2 := by omega
  rw [m1] at h1
  have h2 := pop_step (b / 4 + 64 * v)
  have e2 : (b / 4 + 64 * v) / 2 = b / 8 + 32 * v := by omega
  rw [e2] at h2
  have m2 : (b / 4 + 64 * v) % 2 = b / 4 % 2 := by omega
  rw [m2] at h2
  have h3 := pop_step (b / 8 + 32 * v)
  have e3 : (b / 8 + 32 * v) / 2 = b / 16 + 16 * v := by omega
  rw [e3] at h3
  have m3 : (b / 8 + 32 * v) % 2 = b / 8 % 2 := by omega
  rw [m3] at h3
  have h4 := pop_step (b / 16 + 16 * v)
  have e4 : (b / 16 + 16 * v) / 2 = b / 32 + 8 * v := by omega
  rw [e4] at h4
  have m4 : (b / 16 + 16 * v) % 2 = b / 16 % 2 := by omega
  rw [m4] at h4
  have h5 := pop_step (b / 32 + 8 * v)
  have e5 : (b / 32 + 8 * v) / 2 = b / 64 + 4 * v := by omega
  rw [e5] at h5
  have m5 : (b / 32 + 8 * v) % 2 = b / 32 % 2 := by omega
  rw [m5] at h5
  have h6 := pop_step (b / 64 + 4 * v)
  have e6 : (b / 64 + 4 * v) / 2 = b / 128 + 2 * v := by omega
  rw [e6] at h6
  have m6 : (b / 64 + 4 * v) % 2 = b / 64 % 2 := by omega
  rw [m6] at h6
  have h7 := pop_step (b / 128 + 2 * v)
  have e7 : (b / 128 + 2 * v) / 2 = v := by omega
  rw [e7] at h7
  have m7 : (b / 128 + 2 * v) % 2 = b / 128 % 2 := by omega
  rw [m7] at h7
  unfold s8
  generalize pop (b + 256 * v) = q0 at *
  generalize pop (b / 2 + 128 * v) = q1 at *
  generalize pop (b / 4 + 64 * v) = q2 at *
  generalize pop (b / 8 + 32 * v) = q3 at *
  generalize pop (b / 16 + 16 * v) = q4 at *
  generalize pop (b / 32 + 8 * v) = q5 at *
  generalize pop (b / 64 + 4 * v) = q6 at *
  generalize pop (b / 128 + 2 * v) = q7 at *
  generalize pop v = q8 at *
  clear e0 e1 e2 e3 e4 e5 e6 e7 m0 m1 m2 m3 m4 m5 m6 m7
  omega
theorem pop_vl : ∀ {bs : List Nat}, allB bs → pop (vl bs) = (bs.map s8).sum
  | [], _ => pop_zero
  | b :: r, h => by
    show pop (b + 256 * vl r) = _
    rw [pop_byte (h b (by simp)), pop_vl (bs := r) (fun c hc => h c (by simp [hc])), List.map_cons, List.sum_cons]
/-- The word's way. -/
def ocA (y : Nat) : Nat := (y / 2 &&& 6148914691236517205) + (y &&& 6148914691236517205)
def ocB (y : Nat) : Nat := (y / 4 &&& 3689348814741910323) + (y &&& 3689348814741910323)
def ocC (y : Nat) : Nat := (y / 16 + y) &&& 1085102592571150095
theorem oc_bytes {y : Nat} (hy : y < 18446744073709551616) : ∃ bs : List Nat, bs.length = 8 ∧ allB bs ∧ y = vl bs := by
  refine ⟨[y % 256, y / 256 % 256, y / 65536 % 256, y / 16777216 % 256, y / 4294967296 % 256, y / 1099511627776 % 256, y / 281474976710656 % 256, y / 72057594037927936 % 256], rfl, ?_, ?_⟩
  · intro b hb
    simp only [List.mem_cons, List.not_mem_nil, or_false] at hb
    omega
  · simp only [vl]; omega
theorem oc_sum {y : Nat} (hy : y < 18446744073709551616) : ∃ ps : List Nat, ps.length = 8 ∧ (∀ p ∈ ps, p ≤ 8) ∧ ocC (ocB (ocA y)) = vl ps ∧ pop y = ps.sum := by
  obtain ⟨bs, hl, hb, rfl⟩ := oc_bytes hy
  have m1 : ms 85 8 = 6148914691236517205 := by decide
  have m2 : ms 51 8 = 3689348814741910323 := by decide
  have m3 : ms 15 8 = 1085102592571150095 := by decide
  have hA : allB (bs.map bA) := fun b hb' => by
    obtain ⟨c, hc, rfl⟩ := List.mem_map.1 hb'
    exact (kD (hb c hc)).2.1
  have a := stA hb
  have b := stB hA
  have c := stC (bs := (bs.map bA).map bB) (fun d hd => by
    obtain ⟨c, hc, rfl⟩ := List.mem_map.1 hd
    obtain ⟨e, he, rfl⟩ := List.mem_map.1 hc
    exact ⟨(kD (hb e he)).2.2.1, (kD (hb e he)).2.2.2.1⟩)
  simp only [List.length_map, hl, m1, m2, m3] at a b c
  refine ⟨bs.map s8, by simp [hl], fun p hp => ?_, ?_, pop_vl hb⟩
  · obtain ⟨d, hd, rfl⟩ := List.mem_map.1 hp
    exact (kD (hb d hd)).2.2.2.2
  · unfold ocA ocB ocC
    rw [a, b, c, List.map_map, List.map_map]
    congr 1
    exact List.map_congr_left fun d hd => (kD (hb d hd)).1
theorem div_of {e r Q d : Nat} (h : e = r + d * Q) (hr : r < d) : e / d = Q := by
  rw [h, Nat.add_mul_div_left _ _ (by omega), Nat.div_eq_of_lt hr, Nat.zero_add]
set_option linter.unusedSectionVars false
section
variable {p0 p1 p2 p3 p4 p5 p6 p7 : Nat} (h0 : p0 ≤ 8) (h1 : p1 ≤ 8) (h2 : p2 ≤ 8) (h3 : p3 ≤ 8) (h4 : p4 ≤ 8) (h5 : p5 ≤ 8) (h6 : p6 ≤ 8) (h7 : p7 ≤ 8)
include h0 h1 h2 h3 h4 h5 h6 h7
theorem oc_q1 : vl [p0, p1, p2, p3, p4, p5, p6, p7] / 256 = vl [p1, p2, p3, p4, p5, p6, p7] := by
  show (p0 + 256 * vl [p1, p2, p3, p4, p5, p6, p7]) / 256 = _
  omega
theorem oc_s1 : vl [p0, p1, p2, p3, p4, p5, p6, p7] + vl [p1, p2, p3, p4, p5, p6, p7] = vl [p0 + p1, p1 + p2, p2 + p3, p3 + p4, p4 + p5, p5 + p6, p6 + p7, p7] := by
  simp only [vl]; omega
theorem oc_q2 : vl [p0 + p1, p1 + p2, p2 + p3, p3 + p4, p4 + p5, p5 + p6, p6 + p7, p7] / 65536 = vl [p2 + p3, p3 + p4, p4 + p5, p5 + p6, p6 + p7, p7] := by
  show ((p0 + p1) + 256 * ((p1 + p2) + 256 * vl [p2 + p3, p3 + p4, p4 + p5, p5 + p6, p6 + p7, p7])) / 65536 = _
  omega
theorem oc_s2 : vl [p0 + p1, p1 + p2, p2 + p3, p3 + p4, p4 + p5, p5 + p6, p6 + p7, p7] + vl [p2 + p3, p3 + p4, p4 + p5, p5 + p6, p6 + p7, p7] = vl [p0 + p1 + p2 + p3, p1 + p2 + p3 + p4, p2 + p3 + p4 + p5, p3 + p4 + p5 + p6, p4 + p5 + p6 + p7, p5 + p6 + p7, p6 + p7, p7] := by
  simp only [vl]; omega
theorem oc_q3 : vl [p0 + p1 + p2 + p3, p1 + p2 + p3 + p4, p2 + p3 + p4 + p5, p3 + p4 + p5 + p6, p4 + p5 + p6 + p7, p5 + p6 + p7, p6 + p7, p7] / 4294967296 = vl [p4 + p5 + p6 + p7, p5 + p6 + p7, p6 + p7, p7] := by
  show ((p0 + p1 + p2 + p3) + 256 * ((p1 + p2 + p3 + p4) + 256 * ((p2 + p3 + p4 + p5) + 256 * ((p3 + p4 + p5 + p6) + 256 * vl [p4 + p5 + p6 + p7, p5 + p6 + p7, p6 + p7, p7])))) / 4294967296 = _
  generalize vl [p4 + p5 + p6 + p7, p5 + p6 + p7, p6 + p7, p7] = Q
  exact div_of (r := (p0 + p1 + p2 + p3) + 256 * ((p1 + p2 + p3 + p4) + 256 * ((p2 + p3 + p4 + p5) + 256 * (p3 + p4 + p5 + p6)))) (by omega) (by omega)
theorem oc_m : (vl [p0 + p1 + p2 + p3, p1 + p2 + p3 + p4, p2 + p3 + p4 + p5, p3 + p4 + p5 + p6, p4 + p5 + p6 + p7, p5 + p6 + p7, p6 + p7, p7] + vl [p4 + p5 + p6 + p7, p5 + p6 + p7, p6 + p7, p7]) % 128 = [p0, p1, p2, p3, p4, p5, p6, p7].sum := by
  show ((p0 + p1 + p2 + p3) + 256 * vl [p1 + p2 + p3 + p4, p2 + p3 + p4 + p5, p3 + p4 + p5 + p6, p4 + p5 + p6 + p7, p5 + p6 + p7, p6 + p7, p7] + ((p4 + p5 + p6 + p7) + 256 * vl [p5 + p6 + p7, p6 + p7, p7])) % 128 = _
  generalize vl [p1 + p2 + p3 + p4, p2 + p3 + p4 + p5, p3 + p4 + p5 + p6, p4 + p5 + p6 + p7, p5 + p6 + p7, p6 + p7, p7] = Q
  generalize vl [p5 + p6 + p7, p6 + p7, p7] = R
  simp only [List.sum_cons, List.sum_nil]
  omega
theorem oc_lt : vl [p0, p1, p2, p3, p4, p5, p6, p7] < 2 ^ 60 := by
  simp only [vl]; omega
end
theorem oc_fin {y : Nat} (hy : y < 18446744073709551616) : ocC (ocB (ocA y)) < 2 ^ 60 ∧ ∀ c, c = ocC (ocB (ocA y)) → (c + c / 256 + (c + c / 256) / 65536 + (c + c / 256 + (c + c / 256) / 65536) / 4294967296) % 128 = pop y := by
  obtain ⟨ps, hl, hp, e, hs⟩ := oc_sum hy
  match ps, hl, hp with
  | [p0, p1, p2, p3, p4, p5, p6, p7], _, hp =>
    have h0 := hp p0 (by simp)
    have h1 := hp p1 (by simp)
    have h2 := hp p2 (by simp)
    have h3 := hp p3 (by simp)
    have h4 := hp p4 (by simp)
    have h5 := hp p5 (by simp)
    have h6 := hp p6 (by simp)
    have h7 := hp p7 (by simp)
    rw [e]
    refine ⟨oc_lt h0 h1 h2 h3 h4 h5 h6 h7, fun c hc => ?_⟩
    rw [hc, oc_q1 h0 h1 h2 h3 h4 h5 h6 h7, oc_s1 h0 h1 h2 h3 h4 h5 h6 h7, oc_q2 h0 h1 h2 h3 h4 h5 h6 h7, oc_s2 h0 h1 h2 h3 h4 h5 h6 h7, oc_q3 h0 h1 h2 h3 h4 h5 h6 h7, oc_m h0 h1 h2 h3 h4 h5 h6 h7, hs]
end Go.Sx

/- Spans: loading; the document's span. -/
set_option linter.unusedVariables false
set_option linter.unusedSimpArgs false
set_option maxRecDepth 100000
namespace Go.Sx
attribute [local go_sem ↓] bind_mk intsB_mk strsB_mk svB_mk fnVC ob_some vc_skip vc_exit vc_ret vc_seq vc_block kSeq_normal kSeq_exit kSeq_ret kBlock_normal kBlock_exit kBlock_ret vc_reg vc_regD vc_cond condK_true condK_false vc_loop kLoop_exit kLoop_ret kRoll_normal kRoll_exit kRoll_ret vcOps_nil vcOps_cons gd_bool gd_undef put_some put_none vcT_fin vcT_pure vcT_act vcT_acts vcT_stop stab_none stab_some stabM_nil stabM_cons stabO_ld stabO_ldn stabO_slP stabO_b2s fldOf_ai fldOf_agg fldOf_ait fldOf_aggt intsOf_nil intsOf_cons strsOf_nil strsOf_cons c_omap ob_if lk_nil lk_cons ev_t ev_k z_mov z_pick z_bin z_binB z_binP z_un z_r2s z_conv z_s2b z_b2s z_alloc z_bld z_bldI z_rowI z_rowS z_ld z_ldn z_st z_stn asN_ptr asN_fn z_nilck z_fld z_fadr z_idxA z_idxP z_idxS z_idxV z_slS z_slL z_slP z_mk z_lenS z_lenL z_app appC_ints appC_pl appC_sv appC_strs isS_strs loose_ints loose_pl loose_sv z_slM z_callv callvK_fn callvK_f callvK_yl vc_rangeF rfEnd_eq rfGo_none rfGo_ret rfGo_exit yGo_mk yEnd_n yEnd_r yEnd_e yRdy_mk yMid_n putPs_nil putPs_cons leaf_v leaf_ptr leaf_sl leaf_yl leaf_mp z_appS z_appZ z_cpyS z_mkfn reps_int reps_str z_rowV z_slnil nilK_zero z_cpy z_call asT_tup z_extT z_box boxOf_ai boxOf_agg boxOf_int boxOf_str boxOf_bool boxOf_ptr boxOf_sl sbin_int sbin_str sbinB_mk sbinP_nn sbinP_pn sbinP_np i_add i_sub i_mul i_quo i_rem i_and i_or i_xor i_andNot i_shl i_shr i_eql i_neq i_lss i_leq i_gtr i_geq st_add st_eql st_neq st_lss st_leq st_gtr st_geq bo_eql bo_neq pt_eql pt_neq un_neg un_xor un_not asI_mk asB_mk asS_mk asP_mk asSl_mk asBy_mk bnd_none bnd_some get_mk hput_mk hdel_mk kill_eq wrOf_eq rowOf_eq rsvs_0 rsvs_1 rsvs_2 rsvs_3 rsv_t rsv_c1 rsv_cn nt_v nt_ptr nt_sl nt_agg nt_ai get_ints get_strs get_pl get_sv getN_ints getN_sv set_ints set_strs set_sv setN_ints setN_sv part_ints part_strs part_sv cat_ints cat_strs cat_sv over_ints over_strs over_sv ones_ints ones_strs evs_nil evs_cons condK_eqt condK_eqf det_callP V_ns V_nn V_gs V_gn obC_mk fresh_ev setN_plagg setN_intsv setN_svai setN_svagg over_intsv set_pl setN_pl setN_plai getN_pl getN_strs part_pl cat_pl over_pl over_plints z_mm
attribute [local go_sem] initTm ne_eq not_true_eq_false not_false_eq_true true_and and_true List.length_cons List.length_nil Int.toNat_natCast Nat.add_zero Nat.zero_add Nat.mul_one List.getElem?_cons_zero List.drop_zero List.take_length List.take_succ_cons List.take_zero List.take_nil List.drop_succ_cons Option.map_some Nat.le_refl implies_true List.getElem?_cons_succ decide_true decide_false Bool.not_true Bool.not_false beq_self_eq_true Nat.succ_ne_self Nat.one_ne_zero Nat.zero_ne_one vk_mk hk_mk nk_mk tok_eq plsOf_map intsOf_map bodyOf_pl bodyOf_ints bodyOf_strs bodyOf_sv part_aggv part_agg part_ai part_int part_str part_bool part_sl part_ptr part_nil numsOf_map u_int u_str u_bool u_pnil u_sl u_ptr u_oci u_ocs evq_nil evq_cons fillS_nil fillS_cons u_ocb ones_pl cells_sv cells_ints cells_strs cells_pl smms_nil smms_cons smm_min smm_max plsOf_nil List.nil_append List.all_cons List.all_nil Bool.and_self Bool.true_and Bool.and_true zws_len zw_len zi_len List.set_cons_zero List.set_cons_succ List.flatMap_cons List.flatMap_nil List.append_nil
open Go.Proofs
variable {H : Hp} {n : Nat} {x : Nat → Option SO}

theorem iand_u {a m : Nat} (ha : a < 18446744073709551616) (hm : m < 18446744073709551616) : iand .u64 (a : Int) (m : Int) = ((a &&& m : Nat) : Int) := by
  show IntKind.u64.wrap ((BitVec.ofInt 64 (a : Int) &&& BitVec.ofInt 64 (m : Int)).toNat : Nat) = _
  have e : (BitVec.ofInt 64 (a : Int) &&& BitVec.ofInt 64 (m : Int)).toNat = a &&& m := by
    rw [BitVec.ofInt_natCast, BitVec.ofInt_natCast, BitVec.toNat_and, BitVec.toNat_ofNat, BitVec.toNat_ofNat, Nat.mod_eq_of_lt (by omega), Nat.mod_eq_of_lt (by omega)]
  have hl : a &&& m ≤ m := Nat.and_le_right
  rw [e, wrap_u64r (by omega) (by omega)]
theorem iand_127 {m : Nat} (h : m < 9223372036854775808) : iand .i64 (m : Int) 127 = ((m % 128 : Nat) : Int) := by
  show IntKind.i64.wrap ((BitVec.ofInt 64 (m : Int) &&& BitVec.ofInt 64 127).toNat : Nat) = _
  have e : (BitVec.ofInt 64 (m : Int) &&& BitVec.ofInt 64 127).toNat = m % 128 := by
    rw [BitVec.ofInt_natCast, BitVec.toNat_and, BitVec.toNat_ofNat, Nat.mod_eq_of_lt (by omega), show (BitVec.ofInt 64 127).toNat = 2 ^ 7 - 1 from rfl, Nat.and_two_pow_sub_one_eq_mod]
  rw [e, wrap_i64 (by omega) (by omega)]
theorem onesS {y : Nat} (hy : y < 18446744073709551616) : SpecAt Try.prog nOnes64 [.v (.int .u64 y)] H n (.v (.int .i64 (pop y : Nat))) H n := okT.pure tOnes64 (by
  obtain ⟨hc60, hfin⟩ := oc_fin hy
  have p60 : (2 : Nat) ^ 60 = 1152921504606846976 := by decide
  rw [p60] at hc60
  have lA : ocA y ≤ 12297829382473034410 := by
    have h1 : y / 2 &&& 6148914691236517205 ≤ 6148914691236517205 := Nat.and_le_right
    have h2 : y &&& 6148914691236517205 ≤ 6148914691236517205 := Nat.and_le_right
    unfold ocA; omega
  have lB : ocB (ocA y) ≤ 7378697629483820646 := by
    have h1 : ocA y / 4 &&& 3689348814741910323 ≤ 3689348814741910323 := Nat.and_le_right
    have h2 : ocA y &&& 3689348814741910323 ≤ 3689348814741910323 := Nat.and_le_right
    unfold ocB; omega
  have a1 : ishr .u64 (y : Int) 1 = ((y / 2 : Nat) : Int) := ishr_u (s := 1) (by omega) hy
  have a2 : iand .u64 ((y / 2 : Nat) : Int) 6148914691236517205 = ((y / 2 &&& 6148914691236517205 : Nat) : Int) := iand_u (m := 6148914691236517205) (by omega) (by decide)
  have a3 : iand .u64 (y : Int) 6148914691236517205 = ((y &&& 6148914691236517205 : Nat) : Int) := iand_u (m := 6148914691236517205) hy (by decide)
  have a4 : IntKind.u64.wrap (((y / 2 &&& 6148914691236517205 : Nat) : Int) + ((y &&& 6148914691236517205 : Nat) : Int)) = ((ocA y : Nat) : Int) := by
    have e : ((y / 2 &&& 6148914691236517205 : Nat) : Int) + ((y &&& 6148914691236517205 : Nat) : Int) = ((ocA y : Nat) : Int) := by unfold ocA; omega
    rw [e, wrap_u64r (by omega) (by omega)]
  generalize hA : ocA y = A at *
  have b1 : ishr .u64 (A : Int) 2 = ((A / 4 : Nat) : Int) := ishr_u (s := 2) (by omega) (by omega)
  have b2 : iand .u64 ((A / 4 : Nat) : Int) 3689348814741910323 = ((A / 4 &&& 3689348814741910323 : Nat) : Int) := iand_u (m := 3689348814741910323) (by omega) (by decide)
  have b3 : iand .u64 (A : Int) 3689348814741910323 = ((A &&& 3689348814741910323 : Nat) : Int) := iand_u (m := 3689348814741910323) (by omega) (by decide)
  have b4 : IntKind.u64.wrap (((A / 4 &&& 3689348814741910323 : Nat) : Int) + ((A &&& 3689348814741910323 : Nat) : Int)) = ((ocB A : Nat) : Int) := by
    have e : ((A / 4 &&& 3689348814741910323 : Nat) : Int) + ((A &&& 3689348814741910323 : Nat) : Int) = ((ocB A : Nat) : Int) := by unfold ocB; omega
    rw [e, wrap_u64r (by omega) (by omega)]
  generalize hB : ocB A = B at *
  have c1 : ishr .u64 (B : Int) 4 = ((B / 16 : Nat) : Int) := ishr_u (s := 4) (by omega) (by omega)
  have c2 : IntKind.u64.wrap (((B / 16 : Nat) : Int) + (B : Int)) = ((B / 16 + B : Nat) : Int) := by rw [wrap_u64r (by omega) (by omega)]; omega
  have c3 : iand .u64 ((B / 16 + B : Nat) : Int) 1085102592571150095 = ((ocC B : Nat) : Int) := iand_u (m := 1085102592571150095) (by omega) (by decide)
  have hf := hfin _ rfl
  generalize ocC B = c at *
  have d1 : ishr .u64 (c : Int) 8 = ((c / 256 : Nat) : Int) := ishr_u (s := 8) (by omega) (by omega)
  have d2 : IntKind.u64.wrap ((c : Int) + ((c / 256 : Nat) : Int)) = ((c + c / 256 : Nat) : Int) := by rw [wrap_u64r (by omega) (by omega)]; omega
  generalize hd : c + c / 256 = d at *
  have hd60 : d ≤ 1157425104234217472 := by omega
  have f1 : ishr .u64 (d : Int) 16 = ((d / 65536 : Nat) : Int) := ishr_u (s := 16) (by omega) (by omega)
  have f2 : IntKind.u64.wrap ((d : Int) + ((d / 65536 : Nat) : Int)) = ((d + d / 65536 : Nat) : Int) := by rw [wrap_u64r (by omega) (by omega)]; omega
  generalize he : d + d / 65536 = e at *
  have he60 : e ≤ 1157450000000000000 := by omega
  have g1 : ishr .u64 (e : Int) 32 = ((e / 4294967296 : Nat) : Int) := ishr_u (s := 32) (by omega) (by omega)
  have g2 : IntKind.u64.wrap ((e : Int) + ((e / 4294967296 : Nat) : Int)) = ((e + e / 4294967296 : Nat) : Int) := by rw [wrap_u64r (by omega) (by omega)]; omega
  generalize hg : e + e / 4294967296 = f at *
  have hf60 : f < 9223372036854775808 := by omega
  have i1 : IntKind.i64.wrap (f : Int) = (f : Int) := wrap_i64 (by omega) (by omega)
  have i2 := iand_127 hf60
  unfold mOnes64
  simp -implicitDefEqProofs only [↓fnVC, initTm]
  simp -implicitDefEqProofs only [go_sem, ↓reduceIte, Nat.reduceEqDiff, Nat.reduceAdd, Nat.reduceMul, Nat.reduceLT, Nat.reduceLeDiff, Nat.reduceSub, Int.reduceToNat, Int.reduceLE, Int.reduceLT, reduceCtorEq, Int.reduceEq, Int.reduceGT, Int.reduceGE, Int.reduceNeg, a1, a2, a3, a4, b1, b2, b3, b4, c1, c2, c3, d1, d2, f1, f2, g1, g2, i1, i2]
  rw [hf])
theorem onesCS {y : Nat} (hy : y < 18446744073709551616) : SpecAt Try.prog nOnesCount [.v (.int .u64 y)] H n (.v (.int .i64 (pop y : Nat))) H n := okT.pure tOnesCount (by
  unfold mOnesCount
  simp -implicitDefEqProofs only [↓fnVC, initTm]
  simp -implicitDefEqProofs only [go_sem, ↓reduceIte, Nat.reduceEqDiff, Nat.reduceAdd, Nat.reduceMul, Nat.reduceLT, Nat.reduceLeDiff, Nat.reduceSub, Int.reduceToNat, Int.reduceLE, Int.reduceLT, reduceCtorEq, Int.reduceEq, Int.reduceGT, Int.reduceGE, Int.reduceNeg]
  refine at_call tOnes64 (onesS hy) ?_
  simp -implicitDefEqProofs only [go_sem, ↓reduceIte, Nat.reduceEqDiff, Nat.reduceAdd, Nat.reduceMul, Nat.reduceLT, Nat.reduceLeDiff, Nat.reduceSub, Int.reduceToNat, Int.reduceLE, Int.reduceLT, reduceCtorEq, Int.reduceEq, Int.reduceGT, Int.reduceGE, Int.reduceNeg])
theorem powersS {y : Nat} (hy : y < 9223372036854775808) : SpecAt Try.prog npowers [.v (.int .i64 y)] H n (.v (.int .i64 (pop y : Nat))) H n := lift_pure (okT.spec tpowers (by
  unfold mpowers
  simp -implicitDefEqProofs only [↓fnVC, initTm]
  simp -implicitDefEqProofs only [go_sem, ↓reduceIte, Nat.reduceEqDiff, Nat.reduceAdd, Nat.reduceMul, Nat.reduceLT, Nat.reduceLeDiff, Nat.reduceSub, Int.reduceToNat, Int.reduceLE, Int.reduceLT, reduceCtorEq, Int.reduceEq, Int.reduceGT, Int.reduceGE, Int.reduceNeg]
  refine loop_fam (fun (q : Nat × Nat) => q.1 ≤ y ∧ q.2 + pop q.1 = pop y) (fun q => ⟨[(0, .v (.int .i64 q.1)), (3, .v (.int .i64 q.2))], ⟨[], H.x⟩, 1⟩) (fun q => q.1) (y, 0) ⟨Nat.le_refl _, by simp⟩ ?_ ?_
  · refine sub_mk [] rfl rfl rfl ?_
    simp only [tmSub, hpSub, objSub, eqTm, eqHp, rn, lk, SV.ren, SV.renC, SV.renB, SV.renA, ren_ints, ren_strs, ren_pl, ren_svs, SV.v.injEq, Value.int.injEq, Body.ints.injEq, SV.ptr.injEq, SV.sl.injEq, Value.string.injEq, Value.bool.injEq, List.map_cons, List.map_nil, forall_const, Nat.reduceLT, Nat.lt_add_one, imp_self, true_and, and_true, and_self, ob_some, get_mk, lk_cons, ↓reduceIte, Nat.reduceEqDiff, ne_eq, not_true_eq_false, not_false_eq_true, Nat.one_ne_zero, Nat.zero_ne_one, Nat.succ_ne_self, Nat.reduceAdd, Bool.false_eq_true, false_implies, implies_true, reduceCtorEq]
    rfl
  · rintro ⟨m, c⟩ ⟨hm, hc⟩
    simp only at hm hc
    have hpl := pop_le (k := y)
    simp -implicitDefEqProofs only [go_sem, ↓reduceIte, Nat.reduceEqDiff, Nat.reduceAdd, Nat.reduceMul, Nat.reduceLT, Nat.reduceLeDiff, Nat.reduceSub, Int.reduceToNat, Int.reduceLE, Int.reduceLT, reduceCtorEq, Int.reduceEq, Int.reduceGT, Int.reduceGE, Int.reduceNeg]
    refine condK_bb (fun d => ?_) (fun d => ?_)
    · have d1 : 0 < m := by have := of_decide_eq_true d; omega
      have hs := pop_step m
      have w1 : (m : Int).tmod 2 = ((m % 2 : Nat) : Int) := by rw [Int.tmod_eq_emod_of_nonneg (by omega)]; omega
      have w2 : IntKind.i64.wrap ((c : Int) + ((m % 2 : Nat) : Int)) = ((c + m % 2 : Nat) : Int) := by rw [wrap_i64 (by omega) (by omega)]; omega
      have w3 : (m : Int).tdiv 2 = ((m / 2 : Nat) : Int) := by rw [Int.tdiv_eq_ediv_of_nonneg (by omega)]; omega
      have w4 : IntKind.i64.wrap ((m / 2 : Nat) : Int) = ((m / 2 : Nat) : Int) := wrap_i64 (by omega) (by omega)
      simp -implicitDefEqProofs only [go_sem, ↓reduceIte, Nat.reduceEqDiff, Nat.reduceAdd, Nat.reduceMul, Nat.reduceLT, Nat.reduceLeDiff, Nat.reduceSub, Int.reduceToNat, Int.reduceLE, Int.reduceLT, reduceCtorEq, Int.reduceEq, Int.reduceGT, Int.reduceGE, Int.reduceNeg, d, w1, w2, w3, w4]
      refine kLoop_mk (m / 2, c + m % 2) ⟨by simp only; omega, by simp only; omega⟩ (by simp only; omega) ?_
      refine sub_mk [] rfl rfl rfl ?_
      simp only [tmSub, hpSub, objSub, eqTm, eqHp, rn, lk, SV.ren, SV.renC, SV.renB, SV.renA, ren_ints, ren_strs, ren_pl, ren_svs, SV.v.injEq, Value.int.injEq, Body.ints.injEq, SV.ptr.injEq, SV.sl.injEq, Value.string.injEq, Value.bool.injEq, List.map_cons, List.map_nil, forall_const, Nat.reduceLT, Nat.lt_add_one, imp_self, true_and, and_true, and_self, ob_some, get_mk, lk_cons, ↓reduceIte, Nat.reduceEqDiff, ne_eq, not_true_eq_false, not_false_eq_true, Nat.one_ne_zero, Nat.zero_ne_one, Nat.succ_ne_self, Nat.reduceAdd, Bool.false_eq_true, false_implies, implies_true, reduceCtorEq, w1, w2, w3, w4]
    · have d1 : m = 0 := by have := of_decide_eq_false d; omega
      subst d1
      rw [pop_zero] at hc
      have hc' : c = pop y := by omega
      simp -implicitDefEqProofs only [go_sem, ↓reduceIte, Nat.reduceEqDiff, Nat.reduceAdd, Nat.reduceMul, Nat.reduceLT, Nat.reduceLeDiff, Nat.reduceSub, Int.reduceToNat, Int.reduceLE, Int.reduceLT, reduceCtorEq, Int.reduceEq, Int.reduceGT, Int.reduceGE, Int.reduceNeg, d]
      rw [hc']
      exact sub_val rfl (by decide) (by decide) rfl)) rfl
/-- The document's root. -/
theorem rRootW {m k : Nat} {row : List ByteArray} (hk : k ≤ row.length) (hkb : row.length ≤ 1048576) (hz : szB row) :
    fnVC CT mrSpRoot [.ptr 1 0] ⟨[(1, some ⟨false, (spO m 2 k).b⟩), (2, some ⟨false, .strs row⟩)], x⟩ 3 fun v H' n' => Sub 3 ⟨[(0, .v (.string (rootR (row.take k).reverse)))], ⟨[], x⟩, 3⟩ ⟨[(0, v)], H', n'⟩ := by
  unfold mrSpRoot spO
  by_cases hk0 : k = 0
  · subst hk0
    have g0 : decide (((0 : Nat) : Int) = 0) = true := rfl
    simp -implicitDefEqProofs only [↓fnVC, initTm]
    simp -implicitDefEqProofs only [go_sem, ↓reduceIte, Nat.reduceEqDiff, Nat.reduceAdd, Nat.reduceMul, Nat.reduceLT, Nat.reduceLeDiff, Nat.reduceSub, Int.reduceToNat, Int.reduceLE, Int.reduceLT, reduceCtorEq, Int.reduceEq, Int.reduceGT, Int.reduceGE, Int.reduceNeg, g0]
    refine at_call t11 (rsumS (ss := []) (o := 0) (m := 0) (i := 0) rfl (by decide) (by decide) (by decide)) ?_
    simp -implicitDefEqProofs only [go_sem, ↓reduceIte, Nat.reduceEqDiff, Nat.reduceAdd, Nat.reduceMul, Nat.reduceLT, Nat.reduceLeDiff, Nat.reduceSub, Int.reduceToNat, Int.reduceLE, Int.reduceLT, reduceCtorEq, Int.reduceEq, Int.reduceGT, Int.reduceGE, Int.reduceNeg]
    exact sub_val rfl (by decide) (by decide) rfl
  have g1 : decide ((k : Int) = 0) = false := decide_eq_false (by omega)
  have w1 : IntKind.i64.wrap ((k : Int) - 1) = ((k - 1 : Nat) : Int) := by rw [wrap_i64 (by omega) (by omega)]; omega
  have w2 : IntKind.i64.wrap ((k : Int) - 2) = ((k - 1 : Nat) : Int) - 1 := by rw [wrap_i64 (by omega) (by omega)]; omega
  simp -implicitDefEqProofs only [↓fnVC, initTm]
  simp -implicitDefEqProofs only [go_sem, ↓reduceIte, Nat.reduceEqDiff, Nat.reduceAdd, Nat.reduceMul, Nat.reduceLT, Nat.reduceLeDiff, Nat.reduceSub, Int.reduceToNat, Int.reduceLE, Int.reduceLT, reduceCtorEq, Int.reduceEq, Int.reduceGT, Int.reduceGE, Int.reduceNeg, g1, w1]
  refine ⟨⟨by omega, by omega⟩, by omega, ?_⟩
  refine loop_fam (fun (q : Nat × ByteArray) => q.1 ≤ k - 1 ∧ q.2.size ≤ 536870000 ∧ rootR (row.take k).reverse = ((row.take q.1).reverse).foldl fR q.2)
    (fun q => ⟨[(0, .ptr 1 0), (4, .v (.string q.2)), (5, .v (.int .i64 ((q.1 : Int) - 1)))], ⟨[(1, some ⟨false, .sv [.v (.int .i64 m), .sl 2 0 k 1]⟩), (2, some ⟨false, .strs row⟩)], x⟩, 3⟩) (fun q => q.1) (k - 1, row.getD (k - 1) .empty) ⟨Nat.le_refl _, ?_, ?_⟩ ?_ ?_
  · simp only
    rw [List.getD_eq_getElem?_getD, List.getElem?_eq_getElem (by omega)]; exact hz _ (List.getElem_mem _)
  · rw [take_last (by omega) hk]; rfl
  · refine sub_mk [] rfl rfl rfl ?_
    simp only [tmSub, hpSub, objSub, eqTm, eqHp, rn, lk, SV.ren, SV.renC, SV.renB, SV.renA, ren_ints, ren_strs, ren_pl, ren_svs, SV.v.injEq, Value.int.injEq, Body.ints.injEq, SV.ptr.injEq, SV.sl.injEq, Value.string.injEq, Value.bool.injEq, List.map_cons, List.map_nil, forall_const, Nat.reduceLT, Nat.lt_add_one, imp_self, true_and, and_true, and_self, ob_some, get_mk, lk_cons, ↓reduceIte, Nat.reduceEqDiff, ne_eq, not_true_eq_false, not_false_eq_true, Nat.one_ne_zero, Nat.zero_ne_one, Nat.succ_ne_self, Nat.reduceAdd, Bool.false_eq_true, false_implies, implies_true, reduceCtorEq, w2]
  · rintro ⟨c, hh⟩ ⟨hc, hhz, he⟩
    simp only at hc hhz he
    simp -implicitDefEqProofs only [go_sem, ↓reduceIte, Nat.reduceEqDiff, Nat.reduceAdd, Nat.reduceMul, Nat.reduceLT, Nat.reduceLeDiff, Nat.reduceSub, Int.reduceToNat, Int.reduceLE, Int.reduceLT, reduceCtorEq, Int.reduceEq, Int.reduceGT, Int.reduceGE, Int.reduceNeg]
    refine condK_bb (fun d => ?_) (fun d => ?_)
    · have d1 : 1 ≤ c := by have := of_decide_eq_true d; omega
      have e1 : (c : Int) - 1 = ((c - 1 : Nat) : Int) := by omega
      have z1 : (row.getD (c - 1) .empty).size ≤ 536870000 := by
        rw [List.getD_eq_getElem?_getD, List.getElem?_eq_getElem (by omega)]; exact hz _ (List.getElem_mem _)
      simp -implicitDefEqProofs only [go_sem, ↓reduceIte, Nat.reduceEqDiff, Nat.reduceAdd, Nat.reduceMul, Nat.reduceLT, Nat.reduceLeDiff, Nat.reduceSub, Int.reduceToNat, Int.reduceLE, Int.reduceLT, reduceCtorEq, Int.reduceEq, Int.reduceGT, Int.reduceGE, Int.reduceNeg, d, e1]
      refine ⟨⟨by omega, by omega⟩, by omega, ?_⟩
      refine at_call trefNode (rnodeS z1 hhz) ?_
      have w3 : IntKind.i64.wrap ((c : Int) - 1 - 1) = ((c - 1 : Nat) : Int) - 1 := by rw [wrap_i64 (by omega) (by omega)]; omega
      simp -implicitDefEqProofs only [go_sem, ↓reduceIte, Nat.reduceEqDiff, Nat.reduceAdd, Nat.reduceMul, Nat.reduceLT, Nat.reduceLeDiff, Nat.reduceSub, Int.reduceToNat, Int.reduceLE, Int.reduceLT, reduceCtorEq, Int.reduceEq, Int.reduceGT, Int.reduceGE, Int.reduceNeg]
      refine kLoop_mk (c - 1, nd (row.getD (c - 1) .empty) hh) ⟨by simp only; omega, by simp only; rw [nd_size]; decide, by simp only; rw [he, take_last d1 (by omega)]; rfl⟩ (by simp only; omega) ?_
      refine sub_mk [] rfl rfl rfl ?_
      simp only [tmSub, hpSub, objSub, eqTm, eqHp, rn, lk, SV.ren, SV.renC, SV.renB, SV.renA, ren_ints, ren_strs, ren_pl, ren_svs, SV.v.injEq, Value.int.injEq, Body.ints.injEq, SV.ptr.injEq, SV.sl.injEq, Value.string.injEq, Value.bool.injEq, List.map_cons, List.map_nil, forall_const, Nat.reduceLT, Nat.lt_add_one, imp_self, true_and, and_true, and_self, ob_some, get_mk, lk_cons, ↓reduceIte, Nat.reduceEqDiff, ne_eq, not_true_eq_false, not_false_eq_true, Nat.one_ne_zero, Nat.zero_ne_one, Nat.succ_ne_self, Nat.reduceAdd, Bool.false_eq_true, false_implies, implies_true, reduceCtorEq, w3]
    · have d1 : c = 0 := by have := of_decide_eq_false d; omega
      subst d1
      have he' : hh = rootR (row.take k).reverse := he.symm
      simp -implicitDefEqProofs only [go_sem, ↓reduceIte, Nat.reduceEqDiff, Nat.reduceAdd, Nat.reduceMul, Nat.reduceLT, Nat.reduceLeDiff, Nat.reduceSub, Int.reduceToNat, Int.reduceLE, Int.reduceLT, reduceCtorEq, Int.reduceEq, Int.reduceGT, Int.reduceGE, Int.reduceNeg, d]
      rw [he']
      exact sub_val rfl (by decide) (by decide) rfl
end Go.Sx

/- Spans: the document's span goes on; two spans that are the same. -/
set_option linter.unusedVariables false
set_option linter.unusedSimpArgs false
set_option maxRecDepth 100000
namespace Go.Sx
attribute [local go_sem ↓] bind_mk intsB_mk strsB_mk svB_mk fnVC ob_some vc_skip vc_exit vc_ret vc_seq vc_block kSeq_normal kSeq_exit kSeq_ret kBlock_normal kBlock_exit kBlock_ret vc_reg vc_regD vc_cond condK_true condK_false vc_loop kLoop_exit kLoop_ret kRoll_normal kRoll_exit kRoll_ret vcOps_nil vcOps_cons gd_bool gd_undef put_some put_none vcT_fin vcT_pure vcT_act vcT_acts vcT_stop stab_none stab_some stabM_nil stabM_cons stabO_ld stabO_ldn stabO_slP stabO_b2s fldOf_ai fldOf_agg fldOf_ait fldOf_aggt intsOf_nil intsOf_cons strsOf_nil strsOf_cons c_omap ob_if lk_nil lk_cons ev_t ev_k z_mov z_pick z_bin z_binB z_binP z_un z_r2s z_conv z_s2b z_b2s z_alloc z_bld z_bldI z_rowI z_rowS z_ld z_ldn z_st z_stn asN_ptr asN_fn z_nilck z_fld z_fadr z_idxA z_idxP z_idxS z_idxV z_slS z_slL z_slP z_mk z_lenS z_lenL z_app appC_ints appC_pl appC_sv appC_strs isS_strs loose_ints loose_pl loose_sv z_slM z_callv callvK_fn callvK_f callvK_yl vc_rangeF rfEnd_eq rfGo_none rfGo_ret rfGo_exit yGo_mk yEnd_n yEnd_r yEnd_e yRdy_mk yMid_n putPs_nil putPs_cons leaf_v leaf_ptr leaf_sl leaf_yl leaf_mp z_appS z_appZ z_cpyS z_mkfn reps_int reps_str z_rowV z_slnil nilK_zero z_cpy z_call asT_tup z_extT z_box boxOf_ai boxOf_agg boxOf_int boxOf_str boxOf_bool boxOf_ptr boxOf_sl sbin_int sbin_str sbinB_mk sbinP_nn sbinP_pn sbinP_np i_add i_sub i_mul i_quo i_rem i_and i_or i_xor i_andNot i_shl i_shr i_eql i_neq i_lss i_leq i_gtr i_geq st_add st_eql st_neq st_lss st_leq st_gtr st_geq bo_eql bo_neq pt_eql pt_neq un_neg un_xor un_not asI_mk asB_mk asS_mk asP_mk asSl_mk asBy_mk bnd_none bnd_some get_mk hput_mk hdel_mk kill_eq wrOf_eq rowOf_eq rsvs_0 rsvs_1 rsvs_2 rsvs_3 rsv_t rsv_c1 rsv_cn nt_v nt_ptr nt_sl nt_agg nt_ai get_ints get_strs get_pl get_sv getN_ints getN_sv set_ints set_strs set_sv setN_ints setN_sv part_ints part_strs part_sv cat_ints cat_strs cat_sv over_ints over_strs over_sv ones_ints ones_strs evs_nil evs_cons condK_eqt condK_eqf det_callP V_ns V_nn V_gs V_gn obC_mk fresh_ev setN_plagg setN_intsv setN_svai setN_svagg over_intsv set_pl setN_pl setN_plai getN_pl getN_strs part_pl cat_pl over_pl over_plints z_mm
attribute [local go_sem] initTm ne_eq not_true_eq_false not_false_eq_true true_and and_true List.length_cons List.length_nil Int.toNat_natCast Nat.add_zero Nat.zero_add Nat.mul_one List.getElem?_cons_zero List.drop_zero List.take_length List.take_succ_cons List.take_zero List.take_nil List.drop_succ_cons Option.map_some Nat.le_refl implies_true List.getElem?_cons_succ decide_true decide_false Bool.not_true Bool.not_false beq_self_eq_true Nat.succ_ne_self Nat.one_ne_zero Nat.zero_ne_one vk_mk hk_mk nk_mk tok_eq plsOf_map intsOf_map bodyOf_pl bodyOf_ints bodyOf_strs bodyOf_sv part_aggv part_agg part_ai part_int part_str part_bool part_sl part_ptr part_nil numsOf_map u_int u_str u_bool u_pnil u_sl u_ptr u_oci u_ocs evq_nil evq_cons fillS_nil fillS_cons u_ocb ones_pl cells_sv cells_ints cells_strs cells_pl smms_nil smms_cons smm_min smm_max plsOf_nil List.nil_append List.all_cons List.all_nil Bool.and_self Bool.true_and Bool.and_true zws_len zw_len zi_len List.set_cons_zero List.set_cons_succ List.flatMap_cons List.flatMap_nil List.append_nil
open Go.Proofs
variable {H : Hp} {n : Nat} {x : Nat → Option SO}

theorem rRootS {m r k i : Nat} {row : List ByteArray} (hg : H.get i = some (spO m r k)) (hr : H.get r = some ⟨true, .strs row⟩) (hi : 0 < i) (hr1 : 0 < r) (hne : i ≠ r)
    (hk : k ≤ row.length) (hkb : row.length ≤ 1048576) (hz : szB row) :
    SpecAt Try.prog nrSpRoot [.ptr i 0] H n (.v (.string (rootR (row.take k).reverse))) H n := by
  have := lift_ro (n := n) (H := H) (lc := [(1, some ⟨false, (spO m 2 k).b⟩), (2, some ⟨false, .strs row⟩)]) (okT.spec trSpRoot (rRootW (x := H.x) hk hkb hz)) [(1, i), (2, r)] rfl rfl rfl (by omega) rfl rfl
    ⟨sub_ro rfl hi hg rfl, sub_ro rfl hr1 hr rfl, trivial⟩ (by simp [apartB, apart1, rn, lk, hne, Ne.symm hne]) (by simp [wrNZ, rn, lk]) rfl
  exact this
theorem sameT {a b l : Nat} {ss tt : List ByteArray} (h1 : rowAt H a (.strs []) = some (.strs ss)) (h2 : rowAt H b (.strs []) = some (.strs tt)) (hl : l ≤ ss.length) (hl2 : l ≤ tt.length) (he : ss.take l = tt.take l) (hb : l ≤ 1048576) :
    SpecAt Try.prog nSameTexts [.sl a 0 l 1, .sl b 0 l 1] H n (.v (.bool true)) H n := by
  have hget : ∀ i, i < l → ss.getD (0 + i) .empty = tt.getD (0 + i) .empty := fun i hi => by
    have e1 : (ss.take l)[i]? = (tt.take l)[i]? := by rw [he]
    rw [List.getElem?_take, List.getElem?_take, if_pos hi, if_pos hi] at e1
    rw [Nat.zero_add, List.getD_eq_getElem?_getD, List.getD_eq_getElem?_getD, e1]
  have := lift_ro (n := n) (okT.spec tSameTexts (sameW (x := H.x) (o := 0) (o' := 0) (l := l) (ss := ss) (tt := tt) (by omega) (by omega) hget hb)) [(1, a), (2, b)] rfl rfl rfl (by omega) rfl rfl
    ⟨rowAt_sub h1 rfl ⟨rfl, fun _ h => (by cases h)⟩ rfl, rowAt_sub h2 rfl ⟨rfl, fun _ h => (by cases h)⟩ rfl, trivial⟩ rfl rfl rfl
  exact this
/-- Two spans that are the same. -/
theorem same9W {m k : Nat} {rs rw : List ByteArray} (hk : k ≤ rs.length) (hk2 : k ≤ rw.length) (he : rs.take k = rw.take k) (hb : rs.length ≤ 1048576 ∧ rw.length ≤ 1048576) (hkb : k ≤ 64) (hm : m < 9223372036854775808) (hz : ∀ s ∈ rs, s.size ≤ 536870000) (hz2 : ∀ s ∈ rw, s.size ≤ 536870000) :
    fnVC CT msame9 [.ptr 1 0, .ptr 3 0] ⟨[(1, some (spO m 2 k)), (2, some ⟨true, .strs rs⟩), (3, some (spO m 4 k)), (4, some ⟨true, .strs rw⟩)], x⟩ 5 fun v H' n' => Sub 5 ⟨[(0, .v (.bool true))], ⟨[(1, some (spO m 2 k)), (2, some ⟨true, .strs rs⟩), (3, some (spO m 4 k)), (4, some ⟨true, .strs rw⟩)], x⟩, 5⟩ ⟨[(0, v)], H', n'⟩ := by
  unfold msame9
  have zs : szB rs := fun s hs => Nat.le_trans (hz s hs) (by decide)
  have zw : szB rw := fun s hs => Nat.le_trans (hz2 s hs) (by decide)
  simp -implicitDefEqProofs only [↓fnVC, initTm]
  simp -implicitDefEqProofs only [go_sem, ↓reduceIte, Nat.reduceEqDiff, Nat.reduceAdd, Nat.reduceMul, Nat.reduceLT, Nat.reduceLeDiff, Nat.reduceSub, Int.reduceToNat, Int.reduceLE, Int.reduceLT, reduceCtorEq, Int.reduceEq, Int.reduceGT, Int.reduceGE, Int.reduceNeg]
  refine at_call tSpPeaks (peaksS (i := 1) (r := 2) (m := m) (k := k) (row := rs) (by rfl) (by rfl) (by decide) (by decide) (by decide) (by decide) hk hb.1) ?_
  have hkk : (rs.take k).length = k := by rw [List.length_take]; omega
  have htt : (rs.take k).take k = rw.take k := by rw [List.take_take, Nat.min_self, he]
  have g1 : decide ((m : Int) = (m : Int)) = true := decide_eq_true rfl
  have g2 : ∀ t, seq t t = true := seq_self
  have g3 : ∀ z : Int, decide (z = z) = true := fun z => decide_eq_true rfl
  simp -implicitDefEqProofs only [go_sem, ↓reduceIte, Nat.reduceEqDiff, Nat.reduceAdd, Nat.reduceMul, Nat.reduceLT, Nat.reduceLeDiff, Nat.reduceSub, Int.reduceToNat, Int.reduceLE, Int.reduceLT, reduceCtorEq, Int.reduceEq, Int.reduceGT, Int.reduceGE, Int.reduceNeg, spO]
  refine at_call tSpSize (sizeS (i := 1) (r := 2) (m := m) (k := k) (by rfl)) ?_
  simp -implicitDefEqProofs only [go_sem, ↓reduceIte, Nat.reduceEqDiff, Nat.reduceAdd, Nat.reduceMul, Nat.reduceLT, Nat.reduceLeDiff, Nat.reduceSub, Int.reduceToNat, Int.reduceLE, Int.reduceLT, reduceCtorEq, Int.reduceEq, Int.reduceGT, Int.reduceGE, Int.reduceNeg, g1]
  refine at_call tSameTexts (sameT (a := 5) (b := 4) (l := k) (ss := rs.take k) (tt := rw) (by rfl) (by rfl) (by omega) hk2 htt (by omega)) ?_
  simp -implicitDefEqProofs only [go_sem, ↓reduceIte, Nat.reduceEqDiff, Nat.reduceAdd, Nat.reduceMul, Nat.reduceLT, Nat.reduceLeDiff, Nat.reduceSub, Int.reduceToNat, Int.reduceLE, Int.reduceLT, reduceCtorEq, Int.reduceEq, Int.reduceGT, Int.reduceGE, Int.reduceNeg]
  have hroot : ∀ (Hh : Hp) (nn : Nat), Hh.get 1 = some (spO m 2 k) → Hh.get 2 = some ⟨true, .strs rs⟩ → SpecAt Try.prog nSpRoot [.ptr 1 0] Hh nn (.v (.string (rootR (rs.take k).reverse))) Hh nn := fun Hh nn h1 h2 => by
    by_cases hk0 : k = 0
    · subst hk0; exact spRoot0S h1
    · exact spRootS h1 h2 (by decide) (by decide) (by decide) (by omega) hk hb.1 zs
  refine at_call tSpRoot (hroot _ _ (by rfl) (by rfl)) ?_
  simp -implicitDefEqProofs only [go_sem, ↓reduceIte, Nat.reduceEqDiff, Nat.reduceAdd, Nat.reduceMul, Nat.reduceLT, Nat.reduceLeDiff, Nat.reduceSub, Int.reduceToNat, Int.reduceLE, Int.reduceLT, reduceCtorEq, Int.reduceEq, Int.reduceGT, Int.reduceGE, Int.reduceNeg]
  refine at_call trSpRoot (rRootS (i := 3) (r := 4) (m := m) (k := k) (row := rw) (by rfl) (by rfl) (by decide) (by decide) (by decide) hk2 hb.2 zw) ?_
  rw [← he]
  simp -implicitDefEqProofs only [go_sem, ↓reduceIte, Nat.reduceEqDiff, Nat.reduceAdd, Nat.reduceMul, Nat.reduceLT, Nat.reduceLeDiff, Nat.reduceSub, Int.reduceToNat, Int.reduceLE, Int.reduceLT, reduceCtorEq, Int.reduceEq, Int.reduceGT, Int.reduceGE, Int.reduceNeg, g2]
  refine loop_fam (fun (q : Nat × List ByteArray) => q.1 ≤ k ∧ q.2.length = k)
    (fun q => ⟨[(0, .ptr 1 0), (1, .ptr 3 0), (5, .sl 5 0 k 1), (37, .v (.int .i64 k)), (38, .v (.int .i64 q.1))], ⟨[(1, some ⟨true, .sv [.v (.int .i64 m), .sl 2 0 k 1]⟩), (2, some ⟨true, .strs rs⟩), (3, some ⟨true, .sv [.v (.int .i64 m), .sl 4 0 k 1]⟩), (4, some ⟨true, .strs rw⟩), (5, some ⟨true, .strs q.2⟩)], x⟩, 6⟩) (fun q => k - q.1) (0, rs.take k) ⟨Nat.zero_le _, hkk⟩ ?_ ?_
  · refine sub_mk [] rfl rfl rfl ?_
    simp only [tmSub, hpSub, objSub, eqTm, eqHp, rn, lk, SV.ren, SV.renC, SV.renB, SV.renA, ren_ints, ren_strs, ren_pl, ren_svs, SV.v.injEq, Value.int.injEq, Body.ints.injEq, SV.ptr.injEq, SV.sl.injEq, Value.string.injEq, Value.bool.injEq, List.map_cons, List.map_nil, forall_const, Nat.reduceLT, Nat.lt_add_one, imp_self, true_and, and_true, and_self, ob_some, get_mk, lk_cons, ↓reduceIte, Nat.reduceEqDiff, ne_eq, not_true_eq_false, not_false_eq_true, Nat.one_ne_zero, Nat.zero_ne_one, Nat.succ_ne_self, Nat.reduceAdd, Bool.false_eq_true, false_implies, implies_true, reduceCtorEq, spO]
    rfl
  · rintro ⟨j, r5⟩ ⟨hj, hr5⟩
    simp only at hj hr5
    simp -implicitDefEqProofs only [go_sem, ↓reduceIte, Nat.reduceEqDiff, Nat.reduceAdd, Nat.reduceMul, Nat.reduceLT, Nat.reduceLeDiff, Nat.reduceSub, Int.reduceToNat, Int.reduceLE, Int.reduceLT, reduceCtorEq, Int.reduceEq, Int.reduceGT, Int.reduceGE, Int.reduceNeg]
    refine condK_bb (fun d => ?_) (fun d => ?_)
    · have d1 : j < k := by have := of_decide_eq_true d; omega
      have w3 : IntKind.i64.wrap ((j : Int) + 1) = ((j + 1 : Nat) : Int) := by rw [wrap_i64 (by omega) (by omega)]; omega
      simp -implicitDefEqProofs only [go_sem, ↓reduceIte, Nat.reduceEqDiff, Nat.reduceAdd, Nat.reduceMul, Nat.reduceLT, Nat.reduceLeDiff, Nat.reduceSub, Int.reduceToNat, Int.reduceLE, Int.reduceLT, reduceCtorEq, Int.reduceEq, Int.reduceGT, Int.reduceGE, Int.reduceNeg, d, w3]
      refine ⟨⟨by omega, by omega⟩, by omega, ?_⟩
      refine kLoop_mk (j + 1, r5.set j ⟨#[115, 112, 111, 105, 108, 116]⟩) ⟨by simp only; omega, by simp only [List.length_set]; exact hr5⟩ (by simp only; omega) ?_
      refine sub_mk [] rfl rfl rfl ?_
      simp only [tmSub, hpSub, objSub, eqTm, eqHp, rn, lk, SV.ren, SV.renC, SV.renB, SV.renA, ren_ints, ren_strs, ren_pl, ren_svs, SV.v.injEq, Value.int.injEq, Body.ints.injEq, SV.ptr.injEq, SV.sl.injEq, Value.string.injEq, Value.bool.injEq, List.map_cons, List.map_nil, forall_const, Nat.reduceLT, Nat.lt_add_one, imp_self, true_and, and_true, and_self, ob_some, get_mk, lk_cons, ↓reduceIte, Nat.reduceEqDiff, ne_eq, not_true_eq_false, not_false_eq_true, Nat.one_ne_zero, Nat.zero_ne_one, Nat.succ_ne_self, Nat.reduceAdd, Bool.false_eq_true, false_implies, implies_true, reduceCtorEq, w3]
    · have d1 : j = k := by have := of_decide_eq_false d; omega
      subst d1
      have et5 : List.take j r5 = r5 := List.take_of_length_le (by omega)
      have hrs1 : ∀ h ∈ rs, h.size ≤ 536870000 := hz
      simp -implicitDefEqProofs only [go_sem, ↓reduceIte, Nat.reduceEqDiff, Nat.reduceAdd, Nat.reduceMul, Nat.reduceLT, Nat.reduceLeDiff, Nat.reduceSub, Int.reduceToNat, Int.reduceLE, Int.reduceLT, reduceCtorEq, Int.reduceEq, Int.reduceGT, Int.reduceGE, Int.reduceNeg, d]
      refine ⟨by omega, by omega, by omega, app_kill ?_⟩
      simp -implicitDefEqProofs only [go_sem, ↓reduceIte, Nat.reduceEqDiff, Nat.reduceAdd, Nat.reduceMul, Nat.reduceLT, Nat.reduceLeDiff, Nat.reduceSub, Int.reduceToNat, Int.reduceLE, Int.reduceLT, reduceCtorEq, Int.reduceEq, Int.reduceGT, Int.reduceGE, Int.reduceNeg, et5]
      refine at_call tSpBytes (spBytesS (i := 1) (r := 2) (m := m) (k := j) (row := rs) (by rfl) (by rfl) (by decide) (by decide) (by decide) hk hkb hm hz) ?_
      unfold spV wrV
      cases hbad : (rs.take j).any odd32 with
      | true =>
        simp -implicitDefEqProofs only [go_sem, ↓reduceIte, Nat.reduceEqDiff, Nat.reduceAdd, Nat.reduceMul, Nat.reduceLT, Nat.reduceLeDiff, Nat.reduceSub, Int.reduceToNat, Int.reduceLE, Int.reduceLT, reduceCtorEq, Int.reduceEq, Int.reduceGT, Int.reduceGE, Int.reduceNeg]
        refine at_call trSpBytes (rSpBytesS (i := 3) (r := 4) (m := m) (k := j) (row := rw) (by rfl) (by rfl) (by decide) (by decide) (by decide) hk2 hkb hm hz2) ?_
        unfold spV wrV
        rw [← he, hbad]
        simp -implicitDefEqProofs only [go_sem, ↓reduceIte, Nat.reduceEqDiff, Nat.reduceAdd, Nat.reduceMul, Nat.reduceLT, Nat.reduceLeDiff, Nat.reduceSub, Int.reduceToNat, Int.reduceLE, Int.reduceLT, reduceCtorEq, Int.reduceEq, Int.reduceGT, Int.reduceGE, Int.reduceNeg, g2, g3]
        refine at_call tSpPeaks (peaksS (i := 1) (r := 2) (m := m) (k := j) (row := rs) (by rfl) (by rfl) (by decide) (by decide) (by decide) (by decide) hk hb.1) ?_
        simp -implicitDefEqProofs only [go_sem, ↓reduceIte, Nat.reduceEqDiff, Nat.reduceAdd, Nat.reduceMul, Nat.reduceLT, Nat.reduceLeDiff, Nat.reduceSub, Int.reduceToNat, Int.reduceLE, Int.reduceLT, reduceCtorEq, Int.reduceEq, Int.reduceGT, Int.reduceGE, Int.reduceNeg]
        refine at_call tSameTexts (sameT (a := 8) (b := 4) (l := j) (ss := rs.take j) (tt := rw) (by rfl) (by rfl) (by omega) hk2 htt (by omega)) ?_
        simp -implicitDefEqProofs only [go_sem, ↓reduceIte, Nat.reduceEqDiff, Nat.reduceAdd, Nat.reduceMul, Nat.reduceLT, Nat.reduceLeDiff, Nat.reduceSub, Int.reduceToNat, Int.reduceLE, Int.reduceLT, reduceCtorEq, Int.reduceEq, Int.reduceGT, Int.reduceGE, Int.reduceNeg]
        refine sub_mk [] rfl rfl rfl ?_
        simp only [tmSub, hpSub, objSub, eqTm, eqHp, rn, lk, SV.ren, SV.renC, SV.renB, SV.renA, ren_ints, ren_strs, ren_pl, ren_svs, SV.v.injEq, Value.int.injEq, Body.ints.injEq, SV.ptr.injEq, SV.sl.injEq, Value.string.injEq, Value.bool.injEq, List.map_cons, List.map_nil, forall_const, Nat.reduceLT, Nat.lt_add_one, imp_self, true_and, and_true, and_self, ob_some, get_mk, lk_cons, ↓reduceIte, Nat.reduceEqDiff, ne_eq, not_true_eq_false, not_false_eq_true, Nat.one_ne_zero, Nat.zero_ne_one, Nat.succ_ne_self, Nat.reduceAdd, Bool.false_eq_true, false_implies, implies_true, reduceCtorEq, spO]
      | false =>
        simp -implicitDefEqProofs only [go_sem, ↓reduceIte, Nat.reduceEqDiff, Nat.reduceAdd, Nat.reduceMul, Nat.reduceLT, Nat.reduceLeDiff, Nat.reduceSub, Int.reduceToNat, Int.reduceLE, Int.reduceLT, reduceCtorEq, Int.reduceEq, Int.reduceGT, Int.reduceGE, Int.reduceNeg]
        refine at_call trSpBytes (rSpBytesS (i := 3) (r := 4) (m := m) (k := j) (row := rw) (by rfl) (by rfl) (by decide) (by decide) (by decide) hk2 hkb hm hz2) ?_
        unfold spV wrV
        rw [← he, hbad]
        simp -implicitDefEqProofs only [go_sem, ↓reduceIte, Nat.reduceEqDiff, Nat.reduceAdd, Nat.reduceMul, Nat.reduceLT, Nat.reduceLeDiff, Nat.reduceSub, Int.reduceToNat, Int.reduceLE, Int.reduceLT, reduceCtorEq, Int.reduceEq, Int.reduceGT, Int.reduceGE, Int.reduceNeg, g2, g3]
        refine at_call tSpPeaks (peaksS (i := 1) (r := 2) (m := m) (k := j) (row := rs) (by rfl) (by rfl) (by decide) (by decide) (by decide) (by decide) hk hb.1) ?_
        simp -implicitDefEqProofs only [go_sem, ↓reduceIte, Nat.reduceEqDiff, Nat.reduceAdd, Nat.reduceMul, Nat.reduceLT, Nat.reduceLeDiff, Nat.reduceSub, Int.reduceToNat, Int.reduceLE, Int.reduceLT, reduceCtorEq, Int.reduceEq, Int.reduceGT, Int.reduceGE, Int.reduceNeg]
        refine at_call tSameTexts (sameT (a := 8) (b := 4) (l := j) (ss := rs.take j) (tt := rw) (by rfl) (by rfl) (by omega) hk2 htt (by omega)) ?_
        simp -implicitDefEqProofs only [go_sem, ↓reduceIte, Nat.reduceEqDiff, Nat.reduceAdd, Nat.reduceMul, Nat.reduceLT, Nat.reduceLeDiff, Nat.reduceSub, Int.reduceToNat, Int.reduceLE, Int.reduceLT, reduceCtorEq, Int.reduceEq, Int.reduceGT, Int.reduceGE, Int.reduceNeg]
        refine sub_mk [] rfl rfl rfl ?_
        simp only [tmSub, hpSub, objSub, eqTm, eqHp, rn, lk, SV.ren, SV.renC, SV.renB, SV.renA, ren_ints, ren_strs, ren_pl, ren_svs, SV.v.injEq, Value.int.injEq, Body.ints.injEq, SV.ptr.injEq, SV.sl.injEq, Value.string.injEq, Value.bool.injEq, List.map_cons, List.map_nil, forall_const, Nat.reduceLT, Nat.lt_add_one, imp_self, true_and, and_true, and_self, ob_some, get_mk, lk_cons, ↓reduceIte, Nat.reduceEqDiff, ne_eq, not_true_eq_false, not_false_eq_true, Nat.one_ne_zero, Nat.zero_ne_one, Nat.succ_ne_self, Nat.reduceAdd, Bool.false_eq_true, false_implies, implies_true, reduceCtorEq, spO]
theorem same9S {m k i r a q : Nat} {rs rw : List ByteArray} (h1 : H.get i = some (spO m r k)) (h2 : H.get r = some ⟨true, .strs rs⟩) (h3 : H.get a = some (spO m q k)) (h4 : H.get q = some ⟨true, .strs rw⟩)
    (hlt : (0 < i ∧ i < 1000) ∧ (0 < r ∧ r < 1000) ∧ (0 < a ∧ a < 1000) ∧ (0 < q ∧ q < 1000)) (hne : i ≠ r ∧ i ≠ a ∧ i ≠ q ∧ r ≠ a ∧ r ≠ q ∧ a ≠ q)
    (hk : k ≤ rs.length) (hk2 : k ≤ rw.length) (he : rs.take k = rw.take k) (hb : rs.length ≤ 1048576 ∧ rw.length ≤ 1048576) (hkb : k ≤ 64) (hm : m < 9223372036854775808) (hz : szB rs) (hz2 : szB rw) :
    SpecAt Try.prog nsame9 [.ptr i 0, .ptr a 0] H n (.v (.bool true)) ⟨(i, some (spO m r k)) :: (r, some ⟨true, .strs rs⟩) :: (a, some (spO m q k)) :: (q, some ⟨true, .strs rw⟩) :: H.l, H.x⟩ n := by
  obtain ⟨⟨a1, a2⟩, ⟨b1, b2⟩, ⟨c1, c2⟩, ⟨d1, d2⟩⟩ := hlt
  obtain ⟨n1, n2, n3, n4, n5, n6⟩ := hne
  have := lift (n := n) (okT.spec tsame9 (same9W (x := H.x) hk hk2 he hb hkb hm hz hz2)) [(1, i), (2, r), (3, a), (4, q)] rfl rfl rfl (by omega) rfl rfl
    ⟨sub_wr rfl a1 a2 h1 rfl, sub_wr rfl b1 b2 h2 rfl, sub_wr rfl c1 c2 h3 rfl, sub_wr rfl d1 d2 h4 rfl, trivial⟩
    (by simp [apartB, apart1, rn, lk, n1, n2, n3, n4, n5, n6, Ne.symm n1, Ne.symm n2, Ne.symm n3, Ne.symm n4, Ne.symm n5, Ne.symm n6]) (by simp [wrNZ, rn, lk]; omega) (by omega)
  exact this
theorem pop_le64 : ∀ {e m : Nat}, m < 2 ^ e → pop m ≤ e
  | 0, m, h => by
    have : m = 0 := by simpa using h
    subst this; rw [pop_zero]; omega
  | e + 1, m, h => by
    rw [pop_step]
    have := pop_le64 (e := e) (m := m / 2) (by rw [Nat.pow_succ] at h; omega)
    omega
end Go.Sx
