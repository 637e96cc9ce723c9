/- One operation: copy, len, min, max, calls; and all of them. -/
import Derived.Test.YtbdgjfcchmainaaGreatSxA
import Derived.RangeFuncRecord

set_option linter.unusedVariables false
set_option linter.unusedSimpArgs false
namespace Go.Sx
variable {P : Program} {F : Nat → Prop} {w0 w : World} {ρ : Nat → Loc} {n : Nat} {H : Hp} {tm : List (Nat × SV)} {a : Act} {C : Tab} {o : Oper} {m : MO} {K : SV → Hp → Nat → Prop}
theorem splice_nil {α : Type} (l : List α) (o : Nat) : splice l o [] = l := by simp [splice]
theorem copy_ok (hH : HRel F w0 ρ n H w) {i q z N : Nat} {s : SO} (hi : H.get i = some s) (hw : s.wr = true) {y : Value} {k : Nat} (hy : slrel (ρ i) q k z y) (c : Body) (ys : List Value) (hz : All2 (crel ρ) c.cells ys) (hN : ys.length ≤ k * z)
    (h1 : ∀ y ∈ ys, y.oneCell' = true) (hmp : ∀ es, s.b ≠ .mp es) (b : Body) (hle : q + c.cells.length ≤ s.b.cells.length) (hb : b.cells = splice s.b.cells q c.cells) (hbm : ∀ es, b ≠ .mp es) (hlt : b.lt n = true) (hbS : b.isS = s.b.isS) :
    ∃ w', ((match y with | .slice (some a) _ _ => storeCells a ys | _ => pure () : Sem Unit)).run P w = .ok () w' ∧ HRel F w0 ρ n (H.put i ⟨true, b⟩) w' := by
  have hrow := obj_row hH hi hmp
  by_cases h0 : ys = []
  · subst h0
    have hc0 : c.cells = [] := by have := hz.length; simpa using this
    rw [hc0, splice_nil] at hb
    refine ⟨w, ?_, hH.write i s ⟨true, b⟩ hi hw hlt ?_ rfl rfl rfl rfl (fun _ _ => rfl) (ShKeep.refl w)⟩
    · split
      · simp [storeCells]
      · rfl
    · rw [hw, ← hb] at hrow
      exact ObjOK.mk hbm hrow ((obj_ex hH hi hmp).to hbS fun _ => hw)
  · have hpos : 0 < ys.length := List.length_pos_iff.2 h0
    have hk : 0 < k := by
      rcases Nat.eq_zero_or_pos k with hk | hk
      · rw [hk] at hN; omega
      · exact hk
    unfold slrel at hy
    cases hbl : (ρ i).blk with
    | none => simp only [hbl] at hy; omega
    | some blk =>
      simp only [hbl] at hy
      obtain ⟨cap, ad, e1, e2, e3, rfl⟩ := hy
      rw [e3 (by omega)]
      exact hH.over hi hw hmp hbl q c.cells ys hz hle h1 b hb hbm hlt hbS
theorem run_copy {t u e : TypeId} {inf : TypeInfo} (ht : P.underlying t = some (.slice e)) (hi : P.info? e = some inf) {ty : TypeId} {base : Option Addr} {dl dc q : Nat} {x : Value} (hlen : (Builtin.lenOf x).run P w = .ok q w) {ys : List Value}
    (hnew : (Builtin.firstCells inf.size (min q dl) x).run P w = .ok ys.toArray w) {w' : World} (hst : ((match (Value.slice base dl dc) with | .slice (some a) _ _ => storeCells a ys | _ => pure () : Sem Unit)).run P w = .ok () w') :
    (Builtin.copy_ #[t, u] ty #[.slice base dl dc, x]).run P w = .ok (.int .i64 (min q dl : Nat)) w' := by
  have hmin : Nat.min q dl = min q dl := rfl
  simp only [Builtin.copy_]
  simp only [List.getElem?_toArray, List.getElem?_cons_zero, List.getElem?_cons_succ, Sem.run_bind, run_underlying' ht, run_sizeOf' hi, Result.andThen_ok, hlen, hmin, hnew]
  cases base with
  | none => simp at hst; subst hst; rfl
  | some ad => simp only [] at hst ⊢; rw [Sem.run_bind, hst]; rfl
theorem s_copy {c : Call} (ho : o.op = .call c) (hcal : c.callee = .builtin .copy) (hty : ∀ t ∈ c.argTypes.toList, tyOK P t = true) (hm : trOp P o = some m) (hH : HRel F w0 ρ n H w) (hT : TRel ρ n tm a) (h : sop C tm H n m K) : OpWp P F w0 ρ n o a w K := by
  simp only [trOp, ho, hcal] at hm
  split at hm
  case h_2 => cases hm
  rename_i x y t u hargs hats
  have htt : tyOK P t = true := hty t (by rw [hats]; simp)
  have hargs : c.args = #[x, y] := by apply Array.ext'; simpa using hargs
  have hats : c.argTypes = #[t, u] := by apply Array.ext'; simpa using hats
  have hex := builtin_hex (a := a) ho hcal (Builtin.copy_ #[t, u] o.type #[a.eval x, a.eval y]) (by rw [hargs, hats]; simp [builtin])
  split at hm
  case h_2 => cases hm
  rename_i e hu
  have hke : known P e = true := by
    simp only [tyOK, Bool.and_eq_true, hu] at htt; exact htt.2
  obtain ⟨_, ⟨inf, hi⟩⟩ := known_info hke
  split at hm
  · -- a text
    rename_i hut
    split at hm
    case isFalse => cases hm
    rename_i hs1
    cases hm
    rw [szOf_eq hi] at hs1
    replace h := ob_elim h; obtain ⟨va, hva, h⟩ := h
    replace h := ob_elim h; obtain ⟨vb, hvb, h⟩ := h
    replace h := asSl_elim h; obtain ⟨i, q, k, z1, rfl, h⟩ := h
    replace h := asS_elim h; obtain ⟨s, rfl, h⟩ := h
    obtain ⟨rfl, h⟩ := h
    replace h := ob_elim h; obtain ⟨so, hso, hw, h⟩ := h
    replace h := over_elim (Body.over_isS h)
    obtain ⟨b, ⟨hbS, hK⟩, hle, hb, hmp, hbm, hblt⟩ := h
    have hr : slrel (ρ i) q k 1 (a.eval x) := (ev_ok hH hT hva).1
    have hrs := (ev_ok hH hT hvb).1
    rw [rel_v] at hrs
    obtain ⟨ad, cc, hform⟩ := slrel_form hr
    have hlen : ((bts s).take (min s.size k)).length = min s.size k := by rw [List.length_take, bts_length]; omega
    obtain ⟨w', hst, hH'⟩ := copy_ok (P := P) (N := 0) hH hso hw hr (.ints .u8 ((bts s).take (min s.size k))) (((bts s).take (min s.size k)).map (Value.int .u8)) (all2_int_mk _ _) (by rw [List.length_map, hlen]; omega)
      (by intro v hv; rw [List.mem_map] at hv; obtain ⟨q, _, rfl⟩ := hv; rfl) hmp b hle hb hbm (hblt n (hH.lt i so hso).2 rfl) hbS
    rw [hform] at hst
    refine OpWp.of_gets hex ⟨_, w', _, _, _, ρ, ?_, hK, hH', Ext.refl _ _, Nat.le_refl _, rfl, rfl⟩
    rw [hform, hrs]
    refine run_copy hu hi (q := s.size) rfl (ys := ((bts s).take (min s.size k)).map (Value.int .u8)) ?_ hst
    simp only [Builtin.firstCells, Sem.run_pure]
    congr 1
    apply Array.ext'
    simp [bts, List.map_take, Function.comp_def, List.extract_eq_take_drop]
  · -- a slice
    rename_i e2' hut
    cases hm
    replace h := ob_elim h; obtain ⟨va, hva, h⟩ := h
    replace h := ob_elim h; obtain ⟨vb, hvb, h⟩ := h
    replace h := asSl_elim h; obtain ⟨i, q, k, z1, rfl, h⟩ := h
    replace h := asSl_elim h; obtain ⟨j, p, l, z2, rfl, h⟩ := h
    obtain ⟨rfl, rfl, h⟩ := h
    replace h := ob_elim h; obtain ⟨so, hso, hw, h⟩ := h
    replace h := ob_elim h; obtain ⟨st, hst0, h⟩ := h
    replace h := part_elim h
    obtain ⟨cb, ⟨hones, h⟩, hple, hpc, hmp2, hcm, hclt⟩ := h
    replace h := over_elim (Body.over_isS h)
    obtain ⟨b, ⟨hbS, hK⟩, hle, hb, hmp, hbm, hblt⟩ := h
    rw [szOf_eq hi] at *
    have hr : slrel (ρ i) q k inf.size (a.eval x) := (ev_ok hH hT hva).1
    have hr2 : slrel (ρ j) p l inf.size (a.eval y) := (ev_ok hH hT hvb).1
    obtain ⟨ad, cc, hform⟩ := slrel_form hr
    obtain ⟨ad2, cc2, hform2⟩ := slrel_form hr2
    have hp : PartOK ρ H w j p (min l k * inf.size) cb := by
      refine ⟨hcm, by rw [hpc]; simp; omega, fun blk hbk => ?_, fun hbk => ?_⟩
      · rw [hpc]; exact row_read (obj_row hH hst0 hmp2) hbk p _ hple
      · have := obj_row hH hst0 hmp2
        simp only [RowOK, hbk] at this
        rw [hpc, this]; simp
    have hr3 : ∃ y', slrel (ρ j) p (min l k) inf.size y' ∧ (∀ w', (Builtin.firstCells inf.size (min l k) y').run P w' = (Builtin.firstCells inf.size (min l k) (a.eval y)).run P w') := by
      unfold slrel at hr2 ⊢
      cases hbk : (ρ j).blk with
      | none =>
        simp only [hbk] at hr2
        exact ⟨a.eval y, ⟨by omega, hr2.2⟩, fun w' => rfl⟩
      | some blk =>
        simp only [hbk] at hr2
        obtain ⟨c', a', f1, f2, f3, f4⟩ := hr2
        exact ⟨.slice (some ⟨blk, a', none⟩) (min l k) c', ⟨c', a', by omega, f2, f3, rfl⟩, fun w' => by rw [f4]; rfl⟩
    obtain ⟨y', hy', hyr⟩ := hr3
    obtain ⟨ys, f1, f2, f3⟩ := first_slice (P := P) hp hy' (min l k) (Nat.le_refl _)
    rw [List.take_of_length_le (by rw [hp.len]; exact Nat.le_refl _)] at f2
    obtain ⟨w', hst, hH'⟩ := copy_ok (P := P) (N := 0) hH hso hw hr cb ys f2 (by rw [f1]; exact Nat.mul_le_mul_right _ (by omega)) (ones_ok hones f2) hmp b hle hb hbm (hblt n (hH.lt i so hso).2 (hclt n (hH.lt j st hst0).2)) hbS
    rw [hform] at hst
    refine OpWp.of_gets hex ⟨_, w', _, _, _, ρ, ?_, hK, hH', Ext.refl _ _, Nat.le_refl _, rfl, rfl⟩
    rw [hform]
    refine run_copy hu hi (q := l) (by rw [hform2]; rfl) (ys := ys) ?_ hst
    rw [← hyr w]; exact f3 w rfl
  · cases hm
theorem s_len {c : Call} (ho : o.op = .call c) (hcal : c.callee = .builtin .len) (hm : trOp P o = some m) (hH : HRel F w0 ρ n H w) (hT : TRel ρ n tm a) (h : sop C tm H n m K) : OpWp P F w0 ρ n o a w K := by
  simp only [trOp, ho, hcal] at hm
  split at hm
  case h_2 => cases hm
  rename_i x t hargs hats
  have hargs : c.args = #[x] := by apply Array.ext'; simpa using hargs
  have hats : c.argTypes = #[t] := by apply Array.ext'; simpa using hats
  have hex := builtin_hex (a := a) ho hcal (Builtin.len_ #[t] o.type #[a.eval x]) (by rw [hargs, hats]; simp [builtin])
  have h00 : (#[t] : Array TypeId)[0]? = some t := rfl
  split at hm
  · rename_i k e hu
    cases hm
    have hK : K (.v (.int .i64 k)) H n := h
    refine OpWp.of_gets hex (Gets.same hH (x := .int .i64 k) ?_ hK rfl rfl)
    simp [Builtin.len_, run_underlying' hu, goInt]
  · rename_i hu
    cases hm
    replace h := ob_elim h; obtain ⟨va, hva, h⟩ := h
    replace h := asS_elim h; obtain ⟨s, rfl, hK⟩ := h
    have hr := (ev_ok hH hT hva).1
    rw [rel_v] at hr
    refine OpWp.of_gets hex (Gets.same hH (x := .int .i64 s.size) ?_ hK rfl rfl)
    simp [Builtin.len_, run_underlying' hu, goInt, hr]
  · rename_i e hu
    cases hm
    replace h := ob_elim h; obtain ⟨va, hva, h⟩ := h
    replace h := asSl_elim h; obtain ⟨i, q, k, z, rfl, hK⟩ := h
    have hr : slrel (ρ i) q k z (a.eval x) := (ev_ok hH hT hva).1
    obtain ⟨ad, cc, hform⟩ := slrel_form hr
    refine OpWp.of_gets hex (Gets.same hH (x := .int .i64 k) ?_ hK rfl rfl)
    simp [Builtin.len_, run_underlying' hu, goInt, hform]
  · rename_i k e hu
    cases hm
    replace h := ob_elim h; obtain ⟨va, hva, h⟩ := h
    have hr := (ev_ok hH hT hva).1
    split at h
    · rw [rel_v] at hr
      refine OpWp.of_gets hex (Gets.same hH (x := .int .i64 0) ?_ h rfl rfl)
      simp [Builtin.len_, run_underlying' hu, goInt, hr]
    · rename_i i
      replace h := ob_elim h; obtain ⟨s, hs, h⟩ := h
      replace h := asM_elim h; obtain ⟨es, he, hK⟩ := h
      obtain ⟨b, hb, hval⟩ := hr
      have hobj := hH.obj i s hs
      unfold ObjOK at hobj
      rw [he] at hobj
      obtain ⟨b', ents, clk, e1, e2, e3, _⟩ := hobj
      rw [hb] at e1; cases e1
      refine OpWp.of_gets hex (Gets.same hH (x := .int .i64 es.length) ?_ hK rfl rfl)
      have hg : (getObj b).run P w = .ok (.map ents clk) w := by simp [getObj, Sem.run, e2]
      have hlen : es.length = ents.size := by rw [← e3]; simp
      simp [Builtin.len_, run_underlying' hu, goInt, hval, hg, hlen]
    · exact h.elim
  · cases hm
theorem smms_ok (mn : Bool) : ∀ (l : List SV) (v c : SV) (y : Value) (ys : List Value), smms mn v l = some c → rel ρ v y → All2 (rel ρ) l ys → ∃ x, (ys.foldlM (if mn then Builtin.min2 else Builtin.max2) y).run P w = .ok x w ∧ rel ρ c x ∧ (l ≠ [] → ∃ k z, c = .v (.int k z))
  | [], v, c, y, ys, h, hr, hz => by
    simp only [smms, Option.some.injEq] at h; subst h
    cases ys with
    | nil => exact ⟨y, rfl, hr, by simp⟩
    | cons => exact hz.elim
  | b :: l, v, c, y, [], h, hr, hz => hz.elim
  | b :: l, v, c, y, y2 :: ys, h, hr, hz => by
    simp only [smms] at h
    cases hs : smm mn v b with
    | none => simp [hs] at h
    | some d =>
      simp only [hs] at h
      obtain ⟨hz1, hz2⟩ := hz
      unfold smm at hs
      split at hs
      · rename_i k x k' x'
        split at hs
        · rename_i hk; subst hk
          cases hs
          rw [rel_v] at hr hz1; subst hr hz1
          obtain ⟨x2, e1, e2, e3⟩ := smms_ok mn l _ c (.int k (if mn then (if x' < x then x' else x) else (if x < x' then x' else x))) ys h rfl hz2
          refine ⟨x2, ?_, e2, fun _ => ?_⟩
          · simp only [List.foldlM_cons, Sem.run_bind]
            have hstep : ((if mn then Builtin.min2 else Builtin.max2) (.int k x) (.int k x')).run P w = .ok (.int k (if mn then (if x' < x then x' else x) else (if x < x' then x' else x))) w := by
              cases mn <;> rfl
            rw [hstep, Result.andThen_ok]; exact e1
          · cases l with
            | nil => simp only [smms, Option.some.injEq] at h; exact ⟨_, _, h.symm⟩
            | cons q r => exact e3 (by simp)
        · cases hs
      · cases hs
theorem s_mm {c : Call} (mn : Bool) (ho : o.op = .call c) (hcal : c.callee = .builtin (if mn then .min else .max)) (hm : trOp P o = some m) (hH : HRel F w0 ρ n H w) (hT : TRel ρ n tm a) (h : sop C tm H n m K) : OpWp P F w0 ρ n o a w K := by
  have hm' : ∃ x xs, c.args.toList = x :: xs ∧ m = .mm mn (trA P 0 x) (xs.map (trA P 0)) := by
    simp only [trOp, ho] at hm
    cases mn <;> simp only [hcal, Bool.false_eq_true, if_false, if_true] at hm <;> (split at hm <;> first | (cases hm; rename_i x xs e; exact ⟨x, xs, e, rfl⟩) | cases hm)
  obtain ⟨x, xs, hargs, rfl⟩ := hm'
  replace h := ob_elim h; obtain ⟨va, hva, h⟩ := h
  replace h := ob_elim h; obtain ⟨vs, hvs, h⟩ := h
  replace h := ob_elim h; obtain ⟨cc, hcc, hK⟩ := h
  obtain ⟨hr, hl⟩ := ev_ok hH hT hva
  obtain ⟨hz, hls⟩ := evs_map (P := P) hH hT (fun _ => 0) hvs
  obtain ⟨y, e1, e2, e3⟩ := smms_ok (P := P) (w := w) mn vs va cc _ _ hcc hr hz
  have hargs2 : (c.args.map a.eval).toList = a.eval x :: xs.map a.eval := by simp [hargs]
  have hex : execOp a.eval o = (do pure (.value (← (if mn then Builtin.min_ else Builtin.max_) c.argTypes o.type (c.args.map a.eval)))) := by
    refine builtin_hex (a := a) ho hcal _ ?_
    cases mn <;> rfl
  refine OpWp.of_gets hex (Gets.same hH (x := y) ?_ hK e2 ?_)
  · cases mn
    · simp only [Bool.false_eq_true, if_false] at e1 ⊢
      simp only [Builtin.max_, hargs2]; exact e1
    · simp only [if_true] at e1 ⊢
      simp only [Builtin.min_, hargs2]; exact e1
  · cases vs with
    | nil => simp only [smms, Option.some.injEq] at hcc; subst hcc; exact hl
    | cons q r => obtain ⟨k, z, rfl⟩ := e3 (by simp); rfl
end Go.Sx

/- Maps whose keys are texts. -/
set_option linter.unusedVariables false
set_option linter.unusedSimpArgs false
namespace Go.Sx
open Go.MapKept
variable {P : Program} {F : Nat → Prop} {w0 w : World} {ρ : Nat → Loc} {n : Nat} {H : Hp} {tm : List (Nat × SV)} {a : Act} {C : Tab} {o : Oper} {m : MO} {K : SV → Hp → Nat → Prop}
def kvs (l : List MapEntry) : List (Value × Value) := l.map fun e => (e.key, e.val)
theorem keysS_isKey {l : List MapEntry} (h : keysS (kvs l) = true) : ∀ x ∈ l, IsKey .string x.key := by
  intro x hx
  unfold keysS kvs at h
  rw [List.all_eq_true] at h
  have := h (x.key, x.val) (List.mem_map.2 ⟨x, hx, rfl⟩)
  simp only at this
  cases hk : x.key <;> simp [hk] at this ⊢
  trivial
theorem keyIs_iff {v : Value} {s : ByteArray} : keyIs v s = true ↔ v = .string s := by
  unfold keyIs
  split
  · simp
  · rename_i h
    constructor
    · intro e; cases e
    · intro e; exact absurd e (h s)
theorem find_list (s : ByteArray) (y : Value) : ∀ (l : List MapEntry) (i : Nat), (∀ x ∈ l, IsKey .string x.key) →
    (Instr.findNow .string (.string s) l i = some none ∧ luS (kvs l) s = none ∧ upS (kvs l) s y = kvs l ++ [(.string s, y)] ∧ ∀ x ∈ l, x.key ≠ .string s) ∨
    ∃ j e, Instr.findNow .string (.string s) l i = some (some (i + j, e.val)) ∧ l[j]? = some e ∧ e.key = .string s ∧ luS (kvs l) s = some e.val ∧ upS (kvs l) s y = (kvs l).set j (.string s, y)
  | [], i, _ => .inl ⟨rfl, rfl, rfl, fun x hx => by cases hx⟩
  | e :: l, i, h => by
    have he := h e (List.mem_cons_self ..)
    obtain ⟨t, ht⟩ : ∃ t, e.key = .string t := by
      cases hk : e.key <;> simp [hk, IsKey] at he ⊢
    have hkv : kvs (e :: l) = (e.key, e.val) :: kvs l := rfl
    by_cases hst : t = s
    · subst hst
      refine .inr ⟨0, e, ?_, rfl, ht, ?_, ?_⟩
      · simp only [Instr.findNow, ht, Instr.sameNow, Nat.add_zero]
        rw [show (t == t) = true from (bytes_beq t t).2 rfl]
      · rw [hkv]; simp only [luS]; rw [if_pos (keyIs_iff.2 ht)]
      · rw [hkv]; simp only [upS]; rw [if_pos (keyIs_iff.2 ht)]; rfl
    · have hne : keyIs e.key s = false := by
        cases hq : keyIs e.key s with
        | false => rfl
        | true => rw [keyIs_iff.1 hq] at ht; cases ht; exact absurd rfl hst
      have hb : (s == t) = false := by
        cases hq : (s == t) with
        | false => rfl
        | true => exact absurd ((bytes_beq s t).1 hq).symm hst
      have hf : Instr.findNow .string (.string s) (e :: l) i = Instr.findNow .string (.string s) l (i + 1) := by
        simp only [Instr.findNow, ht, Instr.sameNow]
        rw [hb]
      rcases find_list s y l (i + 1) fun x hx => h x (List.mem_cons_of_mem _ hx) with ⟨h1, h2, h3, h4⟩ | ⟨j, e', h1, h2, h3, h4, h5⟩
      · refine .inl ⟨by rw [hf]; exact h1, ?_, ?_, ?_⟩
        · rw [hkv]; simp only [luS]; rw [if_neg (by rw [hne]; decide)]; exact h2
        · rw [hkv]; simp only [upS]; rw [if_neg (by rw [hne]; decide), h3]; rfl
        · intro x hx
          rcases List.mem_cons.1 hx with rfl | hx
          · rw [ht]; intro e; cases e; exact hst rfl
          · exact h4 x hx
      · refine .inr ⟨j + 1, e', by rw [hf, h1, show i + 1 + j = i + (j + 1) by omega], h2, h3, ?_, ?_⟩
        · rw [hkv]; simp only [luS]; rw [if_neg (by rw [hne]; decide)]; exact h4
        · rw [hkv]; simp only [upS]; rw [if_neg (by rw [hne]; decide), h5]; rfl
theorem kvs_modify {l : List MapEntry} {j : Nat} {s : ByteArray} {y : Value} : kvs (l.modify j fun e => { e with key := .string s, val := y }) = if j < l.length then (kvs l).set j (.string s, y) else kvs l := by
  induction l generalizing j with
  | nil => simp [kvs]
  | cons e l ih =>
    cases j with
    | zero => simp [kvs]
    | succ j =>
      have := ih (j := j)
      simp only [kvs, List.modify_succ_cons, List.map_cons, List.length_cons, Nat.add_lt_add_iff_right] at this ⊢
      rw [this]
      split <;> simp
theorem srel_elem (v : Value) : srel ρ (elemSV v) v := by
  unfold elemSV
  split
  · rename_i xs
    refine ⟨xs, rfl, ?_⟩
    exact (All2.of_get (by simp) fun j x hx => by
      simp only [List.getElem?_map, Option.map_eq_some_iff] at hx
      obtain ⟨y, hy, rfl⟩ := hx
      exact ⟨y, hy, rfl⟩)
  · exact rfl
theorem rel_elem (v : Value) : rel ρ (elemSV v) v := by
  have := srel_elem (ρ := ρ) v
  unfold elemSV at this ⊢
  split at this <;> exact this
theorem lt_elem (v : Value) : ltT n (elemSV v) = true := by
  unfold elemSV
  split
  · rename_i xs
    show (xs.map SV.v).all _ = true
    simp only [List.all_map, List.all_eq_true]
    exact fun x _ => rfl
  · rfl
theorem lt_elemC (v : Value) : ltC n (elemSV v) = true := by
  unfold elemSV
  split
  · rename_i xs
    show (xs.map SV.v).all _ = true
    simp only [List.all_map, List.all_eq_true]
    exact fun x _ => rfl
  · rfl
theorem plsOf_rel : ∀ {cs : List SV} {xs ys : List Value}, plsOf cs = some xs → All2 (crel ρ) cs ys → xs = ys
  | [], xs, ys, h, hr => by
    cases ys with
    | nil => simp [plsOf] at h; exact h
    | cons y ys => exact hr.elim
  | c :: cs, xs, ys, h, hr => by
    cases ys with
    | nil => exact hr.elim
    | cons y ys =>
      obtain ⟨h1, h2⟩ := hr
      cases c with
      | v x =>
        simp only [plsOf, Option.map_eq_some_iff] at h
        obtain ⟨zs, h3, rfl⟩ := h
        have := plsOf_rel h3 h2
        subst this
        have : y = x := h1
        rw [this]
      | _ => simp [plsOf] at h
theorem plV_elim {c : SV} {v : Value} {K : Value → Prop} (h : plV c K) (hr : rel ρ c v) : K v := by
  unfold plV at h
  split at h
  · rw [rel_v] at hr; subst hr; exact h
  · rename_i cs
    obtain ⟨xs, hx, h⟩ := ob_elim h
    obtain ⟨ys, rfl, hy⟩ := hr
    rw [← plsOf_rel hx hy]; exact h
  · have hr' : v = _ := hr
    rw [hr']; exact h
  · exact h.elim
theorem mpOf_elim {H : Hp} {v : SV} {K : List (Value × Value) → Prop} (h : mpOf H v K) : (∃ i o es, v = .mp i ∧ H.get i = some o ∧ o.b = .mp (.map es) ∧ K es) ∨ (v = .v (.map none) ∧ K []) := by
  unfold mpOf at h
  split at h
  · obtain ⟨o, ho, h⟩ := ob_elim h
    obtain ⟨es, he, h⟩ := asM_elim h
    exact .inl ⟨_, o, es, rfl, ho, he, h⟩
  · exact .inr ⟨rfl, h⟩
  · exact h.elim
theorem mpUp_elim {H : Hp} {v : SV} {K : Nat → List (Value × Value) → Prop} (h : mpUp H v K) : ∃ i o es, v = .mp i ∧ H.get i = some o ∧ o.wr = true ∧ o.b = .mp (.map es) ∧ K i es := by
  unfold mpUp at h
  split at h
  · obtain ⟨o, ho, hw, h⟩ := ob_elim h
    obtain ⟨es, he, h⟩ := asM_elim h
    exact ⟨_, o, es, rfl, ho, hw, he, h⟩
  · exact h.elim
theorem map_obj {i : Nat} {s : SO} {es : List (Value × Value)} (hH : HRel F w0 ρ n H w) (hs : H.get i = some s) (he : s.b = .mp (.map es)) : ∃ b ents clk, (ρ i).blk = some b ∧ w.heap[b]? = some (.map ents clk) ∧ kvs ents.toList = es ∧ Stamped ents clk := by
  have hobj := hH.obj i s hs
  unfold ObjOK at hobj
  rw [he] at hobj
  exact hobj
theorem s_makeMap {t : TypeId} {r : Option Operand} (ho : o.op = .makeMap t r) (hm : trOp P o = some m) (hH : HRel F w0 ρ n H w) (hT : TRel ρ n tm a) (h : sop C tm H n m K) : OpWp P F w0 ρ n o a w K := by
  cases r with
  | some r => simp [trOp, ho] at hm
  | none =>
    have hex : execOp a.eval o = (do pure (.value (← Instr.makeMap t none))) := by unfold execOp; rw [ho]; rfl
    have hm' : m = .mkM := by
      simp only [trOp, ho] at hm
      split at hm
      · split at hm
        · cases hm; rfl
        · cases hm
      · cases hm
    subst hm'
    obtain ⟨hn, hK⟩ := h
    have hnew := hH.alloc hn (.map #[] 0) ⟨true, .mp (.map [])⟩ ⟨some w.heap.size, 0, 0, false, none⟩ rfl rfl ⟨_, #[], 0, rfl, heap_alloc_new w _, rfl, stamped_empty 0⟩
    refine OpWp.of_gets hex ⟨.map (some w.heap.size), _, _, _, _, _, ?_, hK, hnew, Ext.upd hn, Nat.le_succ _, ⟨w.heap.size, by rw [upd_same], rfl⟩, ?_⟩
    · simp only [Instr.makeMap, Sem.run_bind, run_newObj, Result.andThen_ok, Sem.run_pure, World.alloc_eq]
    · show idOK (n + 1) n = true
      unfold idOK; simp
theorem s_lookup {t : TypeId} {x k : Operand} {ok : Bool} (ho : o.op = .lookup t x k ok) (hm : trOp P o = some m) (hH : HRel F w0 ρ n H w) (hT : TRel ρ n tm a) (h : sop C tm H n m K) : OpWp P F w0 ρ n o a w K := by
  have hex : execOp a.eval o = (do pure (.value (← Instr.lookup t (a.eval x) (a.eval k) ok))) := by unfold execOp; rw [ho]
  simp only [trOp, ho] at hm
  split at hm
  case h_2 => cases hm
  rename_i kt et ht
  split at hm
  case h_2 => cases hm
  rename_i hk
  cases hi : P.info? et with
  | none => simp [hi] at hm
  | some inf =>
    cases hz : inf.zero with
    | none => simp [hi, hz] at hm
    | some z =>
      simp only [hi, hz, Option.bind_some, Option.map_some, Option.some.injEq] at hm
      subst hm
      obtain ⟨va, hva, h⟩ := ob_elim h
      obtain ⟨vb, hvb, h⟩ := ob_elim h
      obtain ⟨s, rfl, h⟩ := asS_elim h
      have hrb := (ev_ok hH hT hvb).1
      rw [rel_v] at hrb
      have hra := (ev_ok hH hT hva).1
      have fin : ∀ (ents : List MapEntry), keysS (kvs ents) = true → ∀ e, K (luV (luS (kvs ents) s) z ok) H n → (∀ (w : World), (Instr.checkKey e 10000 kt (.string s)).run P w = .ok () w) ∧
          ∃ r : Value, rel ρ (luV (luS (kvs ents) s) z ok) r ∧ ltT n (luV (luS (kvs ents) s) z ok) = true ∧
            (do let (v, okk) ← match ← Instr.findKey kt (.string s) ents with
                  | some (_, v) => pure (v, true)
                  | none => pure (← zeroValue et, false)
                pure (if ok then Value.tuple #[v, .bool okk] else v) : Sem Value).run P w = .ok r w := by
        intro ents hks e _
        refine ⟨fun w => MapKept.run_checkKey (d := .string) (k := .string s) hk trivial e 9999, ?_⟩
        have hzr := run_zero (w := w) hi hz
        have hre : ∀ (q : Option Value), rel ρ (luV q z ok) (if ok then .tuple #[q.getD z, .bool q.isSome] else q.getD z) ∧ ltT n (luV q z ok) = true := by
          intro q
          cases ok
          · exact ⟨rel_elem _, lt_elem _⟩
          · refine ⟨⟨[q.getD z, .bool q.isSome], rfl, ?_⟩, ?_⟩
            · exact ⟨srel_elem _, rfl, trivial⟩
            · show ((ltC n (elemSV (q.getD z))) && true) = true
              rw [lt_elemC]; rfl
        rcases find_list s (.bool false) ents 0 (keysS_isKey hks) with ⟨h1, h2, _, _⟩ | ⟨j, e', h1, h2, h3, h4, _⟩
        · refine ⟨_, (hre _).1, (hre _).2, ?_⟩
          rw [h2]
          simp only [Sem.run_bind, MapKept.run_findKey hk h1, Result.andThen_ok, hzr, Sem.run_pure]
          cases ok <;> rfl
        · refine ⟨_, (hre _).1, (hre _).2, ?_⟩
          rw [h4]
          simp only [Sem.run_bind, MapKept.run_findKey hk h1, Result.andThen_ok, Sem.run_pure]
          cases ok <;> rfl
      rcases mpOf_elim h with ⟨i, so, es, rfl, hs, he, hks, hK⟩ | ⟨rfl, hks, hK⟩
      · obtain ⟨b, hb, hval⟩ := hra
        obtain ⟨b', ents, clk, e1, e2, e3, _⟩ := map_obj hH hs he
        rw [hb] at e1; cases e1
        subst e3
        obtain ⟨f1, r, f2, f3, f4⟩ := fin ents.toList hks ents.isEmpty hK
        refine OpWp.of_gets hex (Gets.same hH (x := r) ?_ hK f2 f3)
        rw [hval, hrb]
        simp only [Instr.lookup, Sem.run_bind, run_underlying ht, Result.andThen_ok, MapKept.run_getObj_map e2, Sem.run_pure, f1]
        simp only [Sem.run_bind] at f4
        exact f4
      · rw [rel_v] at hra
        obtain ⟨f1, r, f2, f3, f4⟩ := fin [] hks true hK
        refine OpWp.of_gets hex (Gets.same hH (x := r) ?_ hK f2 f3)
        rw [hra, hrb]
        simp only [Instr.lookup, Sem.run_bind, run_underlying ht, Result.andThen_ok, Sem.run_pure]
        have f1' := f1
        simp only [show (#[] : Array MapEntry).isEmpty = true from rfl, f1', Result.andThen_ok]
        simp only [Sem.run_bind] at f4
        exact f4
theorem s_mapUpdate {t : TypeId} {x k y : Operand} (ho : o.op = .mapUpdate t x k y) (hm : trOp P o = some m) (hH : HRel F w0 ρ n H w) (hT : TRel ρ n tm a) (h : sop C tm H n m K) : OpWp P F w0 ρ n o a w K := by
  have hex : execOp a.eval o = (do Instr.mapUpdate t (a.eval x) (a.eval k) (a.eval y); pure .skip) := by unfold execOp; rw [ho]
  simp only [trOp, ho] at hm
  split at hm
  case h_2 => cases hm
  rename_i kt et ht
  split at hm
  case h_2 => cases hm
  rename_i hk
  cases hm
  obtain ⟨va, hva, h⟩ := ob_elim h
  obtain ⟨vb, hvb, h⟩ := ob_elim h
  obtain ⟨vc, hvc, h⟩ := ob_elim h
  obtain ⟨s, rfl, h⟩ := asS_elim h
  have hrb := (ev_ok hH hT hvb).1
  rw [rel_v] at hrb
  have hra := (ev_ok hH hT hva).1
  have h := plV_elim h (ev_ok hH hT hvc).1
  generalize a.eval y = v at h hex
  obtain ⟨i, so, es, rfl, hs, hw, he, hks, hK⟩ := mpUp_elim h
  obtain ⟨b, hb, hval⟩ := hra
  obtain ⟨b', ents, clk, e1, e2, e3, e4⟩ := map_obj hH hs he
  rw [hb] at e1; cases e1
  subst e3
  have hkeys := keysS_isKey hks
  have hsk : ∀ o', ShKeep w { w with heap := w.heap.setIfInBounds b o' } := fun o' k cs T fr hc => by
    refine ⟨cs, fr, ?_, rfl⟩
    show (w.heap.setIfInBounds b o')[k]? = _
    rw [(heap_set (o' := o') e2).2 k (fun e => by subst e; rw [e2] at hc; cases hc)]; exact hc
  have fin : ∀ ents' clk', kvs ents'.toList = upS (kvs ents.toList) s v → Stamped ents' clk' → HRel F w0 ρ n (H.put i ⟨true, .mp (.map (upS (kvs ents.toList) s v))⟩) { w with heap := w.heap.setIfInBounds b (.map ents' clk') } := fun ents' clk' q1 q2 =>
    hH.write i so _ hs hw rfl ⟨b, ents', clk', hb, (heap_set e2).1, q1, q2⟩ rfl rfl rfl (by simp) (fun k hk => (heap_set e2).2 k (fun e => hk (by rw [e]; exact hb))) (hsk _)
  rw [hval, hrb] at hex
  rcases find_list s v ents.toList 0 hkeys with ⟨h1, _, h3, h4⟩ | ⟨j, e', h1, h2, h3, _, h5⟩
  · refine OpWp.of_unit hex ?_ hK (fin (ents.push { key := .string s, val := v, born := clk }) (clk + 1) (by rw [h3]; simp [kvs]) (stamped_push e4 h4))
    simp [Instr.mapUpdate, run_underlying ht, MapKept.run_getObj_map e2, MapKept.run_checkKey hk (d := .string) (k := .string s) trivial, MapKept.run_findKey hk h1, MapKept.run_setObj_map _ e2, Result.andThen]
  · have hj : ents[j]? = some e' := by simpa using h2
    have hkey : ∀ e'', ents[j]? = some e'' → ({ e'' with key := .string s, val := v } : MapEntry).key = e''.key := fun e'' he'' => by rw [hj] at he''; cases he''; exact h3.symm
    refine OpWp.of_unit hex ?_ hK (fin (ents.modify j fun e => { e with key := .string s, val := v }) clk ?_ (stamped_modify e4 _ _ (fun _ _ => rfl) (fun e'' _ he'' => hkey e'' he'')))
    · simp [Instr.mapUpdate, run_underlying ht, MapKept.run_getObj_map e2, MapKept.run_checkKey hk (d := .string) (k := .string s) trivial, MapKept.run_findKey hk h1, hj, h3, run_keyThatStays (d := .string) (k := .string s) trivial, MapKept.run_setObj_map _ e2, Result.andThen]
    · have hlt : j < ents.toList.length := (List.getElem?_eq_some_iff.1 h2).1
      rw [h5, Array.toList_modify, kvs_modify, if_pos hlt]
theorem dl_list (s : ByteArray) : ∀ (l : List MapEntry) (i : Nat), (∀ x ∈ l, IsKey .string x.key) →
    (Instr.findNow .string (.string s) l i = some none ∧ dlS (kvs l) s = kvs l) ∨
    ∃ j v, Instr.findNow .string (.string s) l i = some (some (i + j, v)) ∧ j < l.length ∧ dlS (kvs l) s = (kvs l).eraseIdx j
  | [], i, _ => .inl ⟨rfl, rfl⟩
  | e :: l, i, h => by
    have he := h e (List.mem_cons_self ..)
    obtain ⟨t, ht⟩ : ∃ t, e.key = .string t := by
      cases hk : e.key <;> simp [hk, IsKey] at he ⊢
    have hkv : kvs (e :: l) = (e.key, e.val) :: kvs l := rfl
    by_cases hst : t = s
    · subst hst
      refine .inr ⟨0, e.val, ?_, Nat.zero_lt_succ _, ?_⟩
      · simp only [Instr.findNow, ht, Instr.sameNow, Nat.add_zero]
        rw [show (t == t) = true from (bytes_beq t t).2 rfl]
      · rw [hkv]; simp only [dlS]; rw [if_pos (keyIs_iff.2 ht)]; rfl
    · have hne : keyIs e.key s = false := by
        cases hq : keyIs e.key s with
        | false => rfl
        | true => rw [keyIs_iff.1 hq] at ht; cases ht; exact absurd rfl hst
      have hb : (s == t) = false := by
        cases hq : (s == t) with
        | false => rfl
        | true => exact absurd ((bytes_beq s t).1 hq).symm hst
      have hf : Instr.findNow .string (.string s) (e :: l) i = Instr.findNow .string (.string s) l (i + 1) := by
        simp only [Instr.findNow, ht, Instr.sameNow]
        rw [hb]
      rcases dl_list s l (i + 1) fun x hx => h x (List.mem_cons_of_mem _ hx) with ⟨h1, h2⟩ | ⟨j, v, h1, h2, h3⟩
      · refine .inl ⟨by rw [hf]; exact h1, ?_⟩
        rw [hkv]; simp only [dlS]; rw [if_neg (by rw [hne]; decide), h2]
      · refine .inr ⟨j + 1, v, by rw [hf, h1]; simp; omega, by simp; omega, ?_⟩
        rw [hkv]; simp only [dlS]; rw [if_neg (by rw [hne]; decide), h3]; rfl
theorem kvs_erase : ∀ (l : List MapEntry) (j : Nat), kvs (l.eraseIdx j) = (kvs l).eraseIdx j
  | [], _ => rfl
  | e :: l, 0 => rfl
  | e :: l, j + 1 => by
    show (e.key, e.val) :: kvs (l.eraseIdx j) = _
    rw [kvs_erase l j]
    rfl
theorem s_delete {c : Call} (ho : o.op = .call c) (hcal : c.callee = .builtin .delete) (hm : trOp P o = some m) (hH : HRel F w0 ρ n H w) (hT : TRel ρ n tm a) (h : sop C tm H n m K) : OpWp P F w0 ρ n o a w K := by
  simp only [trOp, ho, hcal] at hm
  split at hm
  case h_2 => cases hm
  rename_i x k t u hargs hats
  split at hm
  case h_2 => cases hm
  rename_i kt et ht
  split at hm
  case h_2 => cases hm
  rename_i hk
  cases hm
  have hargs : c.args = #[x, k] := by apply Array.ext'; exact hargs
  have hats : c.argTypes = #[t, u] := by apply Array.ext'; exact hats
  have hex := builtin_hex (a := a) ho hcal (Builtin.delete_ #[t, u] o.type #[a.eval x, a.eval k]) (by rw [hargs, hats]; simp [builtin])
  obtain ⟨va, hva, h⟩ := ob_elim h
  obtain ⟨vb, hvb, h⟩ := ob_elim h
  obtain ⟨s, rfl, h⟩ := asS_elim h
  have hrb := (ev_ok hH hT hvb).1
  rw [rel_v] at hrb
  have hra := (ev_ok hH hT hva).1
  obtain ⟨i, so, es, rfl, hs, hw, he, hks, hK⟩ := mpUp_elim h
  obtain ⟨b, hb, hval⟩ := hra
  obtain ⟨b', ents, clk, e1, e2, e3, e4⟩ := map_obj hH hs he
  rw [hb] at e1; cases e1
  subst e3
  have hkeys := keysS_isKey hks
  have hsk : ∀ o', ShKeep w { w with heap := w.heap.setIfInBounds b o' } := fun o' k cs T fr hc => by
    refine ⟨cs, fr, ?_, rfl⟩
    show (w.heap.setIfInBounds b o')[k]? = _
    rw [(heap_set (o' := o') e2).2 k (fun e => by subst e; rw [e2] at hc; cases hc)]; exact hc
  have fin : ∀ ents' clk', kvs ents'.toList = dlS (kvs ents.toList) s → Stamped ents' clk' → HRel F w0 ρ n (H.put i ⟨true, .mp (.map (dlS (kvs ents.toList) s))⟩) { w with heap := w.heap.setIfInBounds b (.map ents' clk') } := fun ents' clk' q1 q2 =>
    hH.write i so _ hs hw rfl ⟨b, ents', clk', hb, (heap_set e2).1, q1, q2⟩ rfl rfl rfl (by simp) (fun k hk => (heap_set e2).2 k (fun e => hk (by rw [e]; exact hb))) (hsk _)
  rw [hval, hrb] at hex
  rcases dl_list s ents.toList 0 hkeys with ⟨h1, h2⟩ | ⟨j, v, h1, h2, h3⟩
  · refine OpWp.of_gets hex ⟨.tuple #[], _, _, _, _, ρ, ?_, hK, fin ents clk h2.symm e4, Ext.refl _ _, Nat.le_refl _, ⟨[], rfl, trivial⟩, rfl⟩
    simp [Builtin.delete_, run_underlying ht, MapKept.run_getObj_map e2, MapKept.run_checkKey hk (d := .string) (k := .string s) trivial, MapKept.run_findKey hk h1, MapKept.run_setObj_map _ e2, Result.andThen]
  · refine OpWp.of_gets hex ⟨.tuple #[], _, _, _, _, ρ, ?_, hK, fin (ents.eraseIdxIfInBounds j) clk ?_ (stamped_erase e4 j), Ext.refl _ _, Nat.le_refl _, ⟨[], rfl, trivial⟩, rfl⟩
    · simp [Builtin.delete_, run_underlying ht, MapKept.run_getObj_map e2, MapKept.run_checkKey hk (d := .string) (k := .string s) trivial, MapKept.run_findKey hk h1, MapKept.run_setObj_map _ e2, Result.andThen]
    · rw [h3, ← kvs_erase]
      congr 1
      rw [Array.eraseIdxIfInBounds, dif_pos (by simpa using h2), Array.toList_eraseIdx]
end Go.Sx

/- Calls; and every operation. -/
set_option linter.unusedVariables false
set_option linter.unusedSimpArgs false
namespace Go.Sx
variable {P : Program} {F : Nat → Prop} {w0 w : World} {ρ : Nat → Loc} {n : Nat} {H : Hp} {tm : List (Nat × SV)} {a : Act} {C : Tab} {o : Oper} {m : MO} {K : SV → Hp → Nat → Prop}
def CtrOK (P : Program) (f : Nat) (c : PT) : Prop :=
  ∀ (args : List SV) (H : Hp) (n : Nat) (K : SV → Hp → Nat → Prop), c args H n K → ∀ (F : Nat → Prop) (w0 w : World) (ρ : Nat → Loc) (xs : List Value), HRel F w0 ρ n H w → All2 (rel ρ) args xs → args.all (ltT n) = true →
    Calls P f xs.toArray w fun e w' => ∃ x v H' n' ρ', K v H' n' ∧ e = .returned x ∧ rel ρ' v x ∧ ltT n' v = true ∧ HRel F w0 ρ' n' H' w' ∧ Ext n ρ ρ' ∧ n ≤ n'
def YieldOK (P : Program) (i : Nat) (c : PT) : Prop :=
  ∀ (args : List SV) (H : Hp) (n : Nat) (K : SV → Hp → Nat → Prop), c args H n K → ∀ (F : Nat → Prop) (w0 w : World) (ρ : Nat → Loc) (xs : List Value) (b : Nat), HRel F w0 ρ n H w → All2 (rel ρ) args xs → args.all (ltT n) = true → (ρ i).blk = some b →
    ∃ f tmps as bd, (Instr.yield b xs.toArray).run P w = .ok (.round b f tmps as bd) w ∧ RoundIn (FW none) 0 P b f tmps as bd w fun e w' => ∃ x v H' n' ρ', K v H' n' ∧ e = .returned x ∧ rel ρ' v x ∧ ltT n' v = true ∧ HRel F w0 ρ' n' H' w' ∧ Ext n ρ ρ' ∧ n ≤ n'
structure TabOK (P : Program) (C : Tab) : Prop where
  f : ∀ f, CtrOK P f (C f)
  y : ∀ i, YieldOK P i (C.y i)
theorem OpWp.of_call {f : Nat} {xs : List Value} {l : List SV} (hC : TabOK P C) (hc : callK (C f) l H n K) (hH : HRel F w0 ρ n H w) (hz : All2 (rel ρ) l xs) (hl : l.all (ltT n) = true)
    (hrun : (execOp a.eval o).run P w = .ok (.enter f xs.toArray) w) : OpWp P F w0 ρ n o a w K := by
  intro hd r next Q hn
  refine ⟨fun _ _ => trivial, ?_⟩
  rw [Oper.semAt_eq _ _ _ hd, hrun]
  obtain ⟨K0, hc0, hK⟩ := hc
  refine ⟨(fun e => by cases e), callsFW r _ ((hC.f f l H n K0 hc0 F w0 w ρ xs hH hz hl).mono ?_)⟩
  rintro e w' ⟨x, v, H', n', ρ', hk, rfl, h1, h2, h3, h4, h5⟩
  exact hn v H' n' ρ' x w' (hK _ _ _ hk) h3 h4 h5 h1 h2
theorem OpWp.of_yield {i b : Nat} {xs : List Value} {l : List SV} (hC : TabOK P C) (hc : callK (C.y i) l H n K) (hH : HRel F w0 ρ n H w) (hz : All2 (rel ρ) l xs) (hl : l.all (ltT n) = true) (hb : (ρ i).blk = some b)
    (hrun : execOp a.eval o = Instr.yield b xs.toArray) : OpWp P F w0 ρ n o a w K := by
  intro hd r next Q hn
  refine ⟨fun _ _ => trivial, ?_⟩
  obtain ⟨K0, hc0, hK⟩ := hc
  obtain ⟨f, tmps, as, bd, h1, h2⟩ := hC.y i l H n K0 hc0 F w0 w ρ xs b hH hz hl hb
  rw [Oper.semAt_eq _ _ _ hd, hrun, h1]
  refine ⟨(fun e => by cases e), RoundIn.mono (F := FW r) h2 ?_⟩
  rintro e w' ⟨x, v, H', n', ρ', hk, rfl, h1, h2, h3, h4, h5⟩
  exact hn v H' n' ρ' x w' (hK _ _ _ hk) h3 h4 h5 h1 h2
theorem run_callFunc {f : Nat} {fn : Func} (hf : P.funcs[f]? = some fn) (hb : fn.body.isSome = true) (hn : (fn.name != "runtime.NumGoroutine") = true) (args : Array Value) : (callFunc f args).run P w = .ok (.enter f args) w := by
  unfold callFunc
  simp only [Sem.run_bind, run_program, Result.andThen_ok, hf]
  have h1 : (fn.name == "runtime.NumGoroutine") = false := by simpa using hn
  have h2 : fn.body.isNone = false := by cases h : fn.body <;> simp [h] at hb ⊢
  simp only [h1, h2, Bool.false_eq_true, if_false, Sem.run_pure]
theorem argsOf {c : Call} {vs : List SV} (hH : HRel F w0 ρ n H w) (hT : TRel ρ n tm a) (h : evs tm ((c.args.toList.zip (c.argTypes.toList ++ List.replicate c.args.size 0)).map fun p => trA P p.2 p.1) = some vs) :
    All2 (rel ρ) vs (c.args.map a.eval).toList ∧ vs.all (ltT n) = true := by
  have := evs_ok (P := P) hH hT h
  have he : ((c.args.toList.zip (c.argTypes.toList ++ List.replicate c.args.size 0)).map fun p => a.eval p.1) = (c.args.map a.eval).toList := by
    have h1 : ((c.args.toList.zip (c.argTypes.toList ++ List.replicate c.args.size 0)).map fun p => a.eval p.1) = ((c.args.toList.zip (c.argTypes.toList ++ List.replicate c.args.size 0)).map Prod.fst).map a.eval := by simp [Function.comp_def]
    rw [h1, List.map_fst_zip (by simp)]; simp
  rw [he] at this; exact this
theorem s_call {c : Call} {f : FuncId} (ho : o.op = .call c) (hcal : c.callee = .value (.func f)) (hC : TabOK P C) (hm : trOp P o = some m) (hH : HRel F w0 ρ n H w) (hT : TRel ρ n tm a) (h : sop C tm H n m K) : OpWp P F w0 ρ n o a w K := by
  simp only [trOp, ho, hcal] at hm
  split at hm
  case h_2 => cases hm
  rename_i fn hf
  split at hm
  case isFalse => cases hm
  rename_i hc
  simp only [Bool.and_eq_true] at hc
  cases hm
  replace h := ob_elim h; obtain ⟨vs, hvs, h⟩ := h
  obtain ⟨hz, hl⟩ := argsOf (P := P) hH hT hvs
  refine OpWp.of_call (xs := (c.args.map a.eval).toList) hC h hH hz hl ?_
  unfold execOp; rw [ho]
  simp only [resolve, hcal, Act.eval, Deferred.ofValue, pure_bind, invoke, Array.append_empty, Array.empty_append, Array.toArray_toList]
  exact run_callFunc hf hc.1 hc.2 _
def Enters (P : Program) (C : Tab) : Prop := ∀ f l H n K, C f l H n K → ∃ fn, P.funcs[f]? = some fn ∧ fn.body.isSome = true ∧ (fn.name != "runtime.NumGoroutine") = true
theorem s_callv {c : Call} {t : Tmp} (ho : o.op = .call c) (hcal : c.callee = .value (.tmp t)) (hC : TabOK P C) (hE : Enters P C) (hm : trOp P o = some m) (hH : HRel F w0 ρ n H w) (hT : TRel ρ n tm a) (h : sop C tm H n m K) : OpWp P F w0 ρ n o a w K := by
  simp only [trOp, ho, hcal] at hm
  cases hm
  replace h := ob_elim h; obtain ⟨vg, hvg, h⟩ := h
  replace h := ob_elim h; obtain ⟨vs, hvs, h⟩ := h
  obtain ⟨hz, hl⟩ := argsOf (P := P) hH hT hvs
  obtain ⟨⟨g, hg, hrg⟩, hlg⟩ := hT.get t vg hvg
  have hgv : a.eval (.tmp t) = g := by simp [Act.eval, hg]
  split at h
  · rename_i f caps
    obtain ⟨fn, hf, hb, hn⟩ := hE _ _ _ _ _ h.choose_spec.1
    obtain ⟨ys, hval, hzc⟩ := hrg
    have hzc' : All2 (rel ρ) caps ys := All2.mono (fun c y _ hcy => by cases c <;> first | exact hcy | (simp only [arel] at hcy)) hzc
    have hlc : caps.all (ltT n) = true := by
      rw [List.all_eq_true]
      intro x hx
      have := List.all_eq_true.1 (show caps.all (ltA n) = true from hlg) x hx
      cases x <;> first | exact this | (simp only [ltA] at this; cases this)
    refine OpWp.of_call (xs := (c.args.map a.eval).toList ++ ys) hC h hH (hz.append hzc') (by rw [List.all_append, hl, hlc]; rfl) ?_
    unfold execOp; rw [ho]
    simp only [resolve, hcal, hgv, hval, Deferred.ofValue, pure_bind, invoke, Array.empty_append]
    rw [show ((c.args.map a.eval).toList ++ ys).toArray = c.args.map a.eval ++ ys.toArray by rw [← List.append_toArray]]
    exact run_callFunc hf hb hn _
  · rename_i f
    obtain ⟨fn, hf, hb, hn⟩ := hE _ _ _ _ _ h.choose_spec.1
    rw [rel_v] at hrg
    refine OpWp.of_call (xs := (c.args.map a.eval).toList) hC h hH hz hl ?_
    unfold execOp; rw [ho]
    simp only [resolve, hcal, hgv, hrg, Deferred.ofValue, pure_bind, invoke, Array.toArray_toList]
    have e1 : (#[] : Array Value) ++ c.args.map a.eval = c.args.map a.eval := Array.empty_append
    have e2 : c.args.map a.eval ++ (#[] : Array Value) = c.args.map a.eval := Array.append_empty
    show (callFunc f (#[] ++ c.args.map a.eval ++ #[])).run P w = _
    rw [e1, e2]
    exact run_callFunc hf hb hn _
  · rename_i i
    obtain ⟨b, hb, hval⟩ := hrg
    refine OpWp.of_yield (xs := (c.args.map a.eval).toList) hC h hH hz hl hb ?_
    unfold execOp; rw [ho]
    simp only [resolve, hcal, hgv, hval, Deferred.ofValue, pure_bind, invoke, Array.toArray_toList]
    rw [show (#[] : Array Value) ++ c.args.map a.eval = c.args.map a.eval from Array.empty_append]
  · exact h.elim
theorem sop_sound (hC : TabOK P C) (hE : Enters P C) (hm : trO P o = some m) (hH : HRel F w0 ρ n H w) (hT : TRel ρ n tm a) (h : sop C tm H n m K) : OpWp P F w0 ρ n o a w K := by
  unfold trO at hm
  split at hm
  case isFalse => cases hm
  rename_i hty
  rw [List.all_eq_true] at hty
  have hkn : ∀ t ∈ opTypes o.op, known P t = true := fun t ht => by
    have := hty t ht; simp only [tyOK, Bool.and_eq_true] at this; exact this.1
  have hel : ∀ t ∈ opTypes o.op, ∀ e, (P.underlying t = some (.slice e) ∨ ∃ k, P.underlying t = some (.array k e)) → known P e = true := fun t ht e he => by
    have := hty t ht
    simp only [tyOK, Bool.and_eq_true] at this
    rcases he with he | ⟨k, he⟩ <;> (rw [he] at this; exact this.2)
  cases ho : o.op with
  | move x => exact s_move (.inl ho) hm hH hT h
  | assign x => exact s_move (.inr ho) hm hH hT h
  | pick c x y => exact s_pick ho hm hH hT h
  | binOp op t x y u => exact s_bin ho hm hH hT h
  | unOp op t x => exact s_un ho hm hH hT h
  | convert s d x => exact s_conv ho hm hH hT h
  | alloc t => exact s_alloc ho hm hH hT h
  | box t x => exact s_box ho hm hH hT h
  | build t ps => exact s_build ho (hty t (by rw [ho]; simp [opTypes])) hm hH hT h
  | buildSlice t k ps => exact s_buildSlice ho (hty t (by rw [ho]; simp [opTypes])) hm hH hT h
  | load t x => exact s_load ho hm hH hT (known_info (hkn t (by rw [ho]; simp [opTypes]))).1 h
  | store t x y => exact s_store ho hm hH hT (known_info (hkn t (by rw [ho]; simp [opTypes]))).2 h
  | nilCheck x => exact s_nilck ho hm hH hT h
  | field s x f =>
    refine s_field ho hm hH hT (fun fs fd hs hf => ?_) h
    have := hty s (by rw [ho]; simp [opTypes])
    simp only [tyOK, Bool.and_eq_true, hs] at this
    have h2 := List.all_eq_true.1 this.2 fd (by
      have := Array.mem_of_getElem? hf
      simpa using this)
    exact (known_info h2).1
  | fieldAddr s x f => exact s_fadr ho hm hH hT h
  | indexAddr t x y => exact s_indexAddr ho hm hH hT (fun e he => (known_info (hel t (by rw [ho]; simp [opTypes]) e he)).2) h
  | index t x y => exact s_index ho hm hH hT (fun k e he => (known_info (hel t (by rw [ho]; simp [opTypes]) e (.inr ⟨k, he⟩))).1) h
  | slice t x lo hi mx =>
    cases mx with
    | none => exact s_slice ho hm hH hT (fun e he => (known_info (hel t (by rw [ho]; simp [opTypes]) e he)).2) h
    | some mx => cases hi with
      | none => simp [trOp, ho] at hm
      | some hi => exact s_slice3 ho hm hH hT (fun e he => (known_info (hel t (by rw [ho]; simp [opTypes]) e he)).2) h
  | makeSlice t x y => exact s_makeSlice ho hm hH hT h
  | extract x k => exact s_extract ho hm hH hT h
  | makeMap t r => exact s_makeMap ho hm hH hT h
  | lookup t x k ok => exact s_lookup ho hm hH hT h
  | mapUpdate t x k y => exact s_mapUpdate ho hm hH hT h
  | makeFunc fn first caps => exact s_makeFunc ho hm hH hT h
  | call c =>
    cases hcal : c.callee with
    | value f =>
      cases f with
      | func f => exact s_call ho hcal hC hm hH hT h
      | tmp t => exact s_callv ho hcal hC hE hm hH hT h
      | const _ => simp [trOp, ho, hcal] at hm
      | global _ => simp [trOp, ho, hcal] at hm
    | invoke _ _ => simp [trOp, ho, hcal] at hm
    | builtin b =>
      cases b
      case len => exact s_len ho hcal hm hH hT h
      case append => exact s_append ho hcal hm hH hT h
      case delete => exact s_delete ho hcal hm hH hT h
      case copy => exact s_copy ho hcal (fun t ht => hty t (by rw [ho]; simp only [opTypes, hcal]; exact ht)) hm hH hT h
      case min => exact s_mm true ho hcal hm hH hT h
      case max => exact s_mm false ho hcal hm hH hT h
      all_goals simp [trOp, ho, hcal] at hm
  | _ => simp [trOp, ho] at hm
end Go.Sx

/- Regions, code, functions. -/
set_option linter.unusedVariables false
set_option linter.unusedSimpArgs false
namespace Go.Sx
variable {P : Program} {F : Nat → Prop} {w0 w : World} {ρ : Nat → Loc} {n : Nat} {H : Hp} {tm : List (Nat × SV)} {a : Act} {C : Tab} {ds : List Deferred}
structure ARel (ds : List Deferred) (ρ : Nat → Loc) (N n : Nat) (tm : List (Nat × SV)) (a : Act) : Prop where
  t : TRel ρ n tm a
  size : a.tmps.size = N
  defers : a.defers = ds
theorem TRel.ext {n' : Nat} {ρ' : Nat → Loc} (h : TRel ρ n tm a) (hx : Ext n ρ ρ') (hn : n ≤ n') : TRel ρ' n' tm a :=
  ⟨fun t v hv => let ⟨⟨x, h1, h2⟩, h3⟩ := h.get t v hv; ⟨⟨x, h1, rel_ext hx h3 h2⟩, ltT_mono hn h3⟩⟩
theorem ARel.put {N : Nat} {d : Option Nat} {v : SV} {x : Value} (h : ARel ds ρ N n tm a) (hd : ∀ t, d = some t → t < N) (hr : rel ρ v x) (hl : ltT n v = true) : ARel ds ρ N n (put tm d v) (a.put d x) := by
  cases d with
  | none => exact h
  | some t =>
    refine ⟨⟨fun s u hs => ?_⟩, by simp [Act.put, h.size], h.defers⟩
    simp only [Sx.put, lk] at hs
    split at hs
    · rename_i e; subst e; cases hs
      refine ⟨⟨x, ?_, hr⟩, hl⟩
      simp only [Act.put]
      rw [Array.getElem?_setIfInBounds_self_of_lt (by rw [h.size]; exact hd t rfl)]
    · rename_i e
      obtain ⟨⟨y, h1, h2⟩, h3⟩ := h.t.get s u hs
      refine ⟨⟨y, ?_, h2⟩, h3⟩
      simp only [Act.put]
      rw [Array.getElem?_setIfInBounds_ne e]; exact h1
theorem ARel.ext {N n' : Nat} {ρ' : Nat → Loc} (h : ARel ds ρ N n tm a) (hx : Ext n ρ ρ') (hn : n ≤ n') : ARel ds ρ' N n' tm a := ⟨h.t.ext hx hn, h.size, h.defers⟩
def gd (v : SV) (want : Bool) (T E : Prop) : Prop := match v with
  | .v (.bool b) => (b = want → T) ∧ (b ≠ want → E)
  | .v (.tuple ⟨[]⟩) => E
  | _ => False
def vcOps (C : Tab) : List MOp → List (Nat × SV) → Hp → Nat → (List (Nat × SV) → Hp → Nat → Prop) → Prop
  | [], tm, H, n, K => K tm H n
  | o :: r, tm, H, n, K => match o.g with
    | none => sop C tm H n o.op fun v H' n' => vcOps C r (put tm o.d v) H' n' K
    | some (t, want) => ob (lk tm t) fun g => gd g want (sop C tm H n o.op fun v H' n' => vcOps C r (put tm o.d v) H' n' K) (vcOps C r (put tm o.d (.v undef)) H n K)
def trG (P : Program) (N : Nat) (ops : Array Oper) (o : Oper) : Option MOp := match trO P o with
  | none => none
  | some m => if o.dst.all (· < N) then (match o.guard with
    | none => some ⟨o.dst, m, none⟩
    | some (j, want) => match (ops[j]?).bind (·.dst) with
      | some t => some ⟨o.dst, m, some (t, want)⟩
      | none => none) else none
def trL (P : Program) (N : Nat) (ops : Array Oper) : List Oper → Option (List MOp)
  | [] => some []
  | o :: r => match trG P N ops o, trL P N ops r with
    | some m, some l => some (m :: l)
    | _, _ => none
theorem wanted_none {ops : Array Oper} {o : Oper} (h : o.guard = none) : Region.wanted o (yielded ops a.tmps) = true := by simp [Region.wanted, h]
theorem trO_nd {o : Oper} {m : MO} (h : trO P o = some m) : ∀ c, o.op ≠ .defer c := by
  intro c hc
  unfold trO at h
  split at h
  · simp [trOp, hc] at h
  · cases h
theorem wpOp_sound {N i : Nat} {ops : Array Oper} {o : Oper} {mo : MOp} {Kn : Act → World → Prop} {Q : Exit → Act → World → Prop} {r : Option Nat} (hC : TabOK P C) (hE : Enters P C) (hi : ops[i]? = some o) (hm : trG P N ops o = some mo) (hH : HRel F w0 ρ n H w) (hA : ARel ds ρ N n tm a)
    (K : SV → Hp → Nat → Prop) (E : Prop) (h : match mo.g with | none => sop C tm H n mo.op K | some (t, want) => ob (lk tm t) fun g => gd g want (sop C tm H n mo.op K) E)
    (hK : ∀ v H' n' ρ' x w', K v H' n' → HRel F w0 ρ' n' H' w' → Ext n ρ ρ' → n ≤ n' → rel ρ' v x → ltT n' v = true → Kn (a.put o.dst x) w')
    (hEK : E → Kn (a.put o.dst undef) w) : wpOpIn (FW r) 0 P ops Q i Kn a w := by
  unfold wpOpIn
  simp only [hi]
  unfold trG at hm
  split at hm
  · cases hm
  · rename_i m htr
    split at hm
    case isFalse => cases hm
    split at hm
    · rename_i hg
      cases hm
      rw [if_pos (by rw [wanted_none hg])]
      exact (sop_sound hC hE htr hH hA.t h (trO_nd htr) r Kn Q hK)
    · rename_i j want hg
      split at hm
      · rename_i t ht
        cases hm
        replace h := ob_elim h
        obtain ⟨g, hg1, h⟩ := h
        obtain ⟨⟨y, hy, hr⟩, hlt0⟩ := hA.t.get t g hg1
        clear hlt0
        unfold gd at h
        split at h
        · rename_i b
          rw [rel_v] at hr; subst hr
          have hyd : yielded ops a.tmps j = some b := by simp [yielded, ht, hy]
          by_cases hb : b = want
          · rw [if_pos (by simp [Region.wanted, hg, hyd, hb])]
            exact (sop_sound hC hE htr hH hA.t (h.1 hb) (trO_nd htr) r Kn Q hK)
          · rw [if_neg (by simp [Region.wanted, hg, hyd, hb])]
            exact ⟨fun _ _ => trivial, hEK (h.2 hb)⟩
        · rw [rel_v] at hr; subst hr
          have hyd : yielded ops a.tmps j = none := by simp [yielded, ht, hy]
          rw [if_neg (by simp [Region.wanted, hg, hyd])]
          exact ⟨fun _ _ => trivial, hEK h⟩
        · exact h.elim
      · cases hm
theorem trG_dst {N : Nat} {ops : Array Oper} {o : Oper} {mo : MOp} (hm : trG P N ops o = some mo) : mo.d = o.dst ∧ ∀ t, o.dst = some t → t < N := by
  unfold trG at hm
  split at hm
  · cases hm
  · split at hm
    case isFalse => cases hm
    rename_i hd
    have : ∀ t, o.dst = some t → t < N := fun t ht => by rw [ht] at hd; simpa using hd
    split at hm
    · cases hm; exact ⟨rfl, this⟩
    · split at hm
      · cases hm; exact ⟨rfl, this⟩
      · cases hm
theorem vcOps_sound {N : Nat} {ops : Array Oper} {Q : Exit → Act → World → Prop} {r : Option Nat} (hC : TabOK P C) (hE : Enters P C) :
    ∀ (l : List Oper) (i : Nat) (ms : List MOp) (tm : List (Nat × SV)) (H : Hp) (n : Nat) (ρ : Nat → Loc) (a : Act) (w : World) (K : List (Nat × SV) → Hp → Nat → Prop), (∀ j o, l[j]? = some o → ops[i + j]? = some o) → trL P N ops l = some ms →
      HRel F w0 ρ n H w → ARel ds ρ N n tm a → vcOps C ms tm H n K →
      (∀ tm' H' n' ρ' a' w', K tm' H' n' → HRel F w0 ρ' n' H' w' → ARel ds ρ' N n' tm' a' → Ext n ρ ρ' → n ≤ n' → Q .normal a' w') →
      wpOpsIn (FW r) 0 P ops Q (List.range' i l.length) a w
  | [], i, ms, tm, H, n, ρ, a, w, K, _, hm, hH, hA, h, hK => by
    simp only [trL, Option.some.injEq] at hm; subst hm
    exact hK tm H n ρ a w h hH hA (Ext.refl _ _) (Nat.le_refl _)
  | o :: l, i, ms, tm, H, n, ρ, a, w, K, hl, hm, hH, hA, h, hK => by
    simp only [trL] at hm
    split at hm
    · rename_i mo r h1 h2
      cases hm
      have hd := trG_dst h1
      simp only [List.length_cons, List.range'_succ]
      rw [wpOpsIn_cons]
      have hi : ops[i]? = some o := by have := hl 0 o rfl; simpa using this
      have hl' : ∀ j o, l[j]? = some o → ops[i + 1 + j]? = some o := fun j o ho => by
        have := hl (j + 1) o (by simpa using ho)
        rwa [show i + 1 + j = i + (j + 1) by omega]
      refine wpOp_sound hC hE hi h1 hH hA (fun v H' n' => vcOps C r (put tm mo.d v) H' n' K) (vcOps C r (put tm mo.d (.v undef)) H n K) ?_ ?_ ?_
      · simp only [vcOps] at h; exact h
      · intro v H' n' ρ' x w' hk hH' hx hn hr hlt
        rw [hd.1] at hk
        exact vcOps_sound hC hE l (i + 1) r _ H' n' ρ' _ w' K hl' h2 hH' ((hA.ext hx hn).put hd.2 hr hlt) hk (fun tm' H'' n'' ρ'' a' w'' k1 k2 k3 k4 k5 => hK tm' H'' n'' ρ'' a' w'' k1 k2 k3 (hx.trans k4 hn) (Nat.le_trans hn k5))
      · intro hk
        rw [hd.1] at hk
        exact vcOps_sound hC hE l (i + 1) r _ H n ρ _ w K hl' h2 hH (hA.put (v := .v undef) hd.2 rfl rfl) hk hK
    · cases hm
def rn (π : List (Nat × Nat)) (i : Nat) : Nat := match lk π i with
  | some j => j
  | none => i
def SV.renA (π : List (Nat × Nat)) : SV → SV
  | .ptr i o => .ptr (rn π i) o
  | .sl i o m z => .sl (rn π i) o m z
  | .mp i => .mp (rn π i)
  | .yl i => .yl (rn π i)
  | c => c
def SV.renB (π : List (Nat × Nat)) : SV → SV
  | .fn f caps => .fn f (caps.map (SV.renA π))
  | c => c.renA π
def SV.renC (π : List (Nat × Nat)) : SV → SV
  | .agg cs => .agg (cs.map (SV.renB π))
  | c => c.renB π
def SV.ren (π : List (Nat × Nat)) : SV → SV
  | .tup cs => .tup (cs.map (SV.renC π))
  | c => c.renC π
def Body.ren (π : List (Nat × Nat)) : Body → Body
  | .sv cs => .sv (cs.map (SV.renB π))
  | .mp (.loop L st pd tm) => .mp (.loop L st pd (tm.map fun p => (p.1, p.2.ren π)))
  | .mp (.shp i T c) => .mp (.shp (rn π i) T c)
  | b => b
theorem lk_map {α β : Type} {f : α → β} {l : List (Nat × α)} {t : Nat} : lk (l.map fun p => (p.1, f p.2)) t = (lk l t).map f := by
  induction l with
  | nil => rfl
  | cons p r ih =>
    obtain ⟨k, v⟩ := p
    simp only [List.map_cons, lk]
    split
    · rfl
    · exact ih
theorem isS_ren {π : List (Nat × Nat)} (b : Body) : (b.ren π).isS = b.isS := by rcases b with _ | _ | _ | _ | (_ | _ | _ | _) <;> rfl
theorem ren_mp {π : List (Nat × Nat)} {b : Body} : (∀ es, b.ren π ≠ .mp es) ↔ ∀ es, b ≠ .mp es := by
  rcases b with _ | _ | _ | _ | (_ | _ | _ | _) <;> simp [Body.ren]
theorem ObjOK.weak {ρ : Nat → Loc} {w : World} {l : Loc} {wr wr' : Bool} {b : Body} (h : ObjOK ρ w l ⟨wr', b⟩) (hw : wr = true → wr' = true) : ObjOK ρ w l ⟨wr, b⟩ := by
  by_cases hm : ∀ es, b ≠ .mp es
  · obtain ⟨h1, h2⟩ := h.row hm
    refine ObjOK.mk hm ?_ (h2.to rfl hw)
    unfold RowOK at h1 ⊢
    simp only at h1 ⊢
    cases hb : l.blk with
    | none => rw [hb] at h1; exact h1
    | some b =>
      rw [hb] at h1
      obtain ⟨c, T, fr, e1, e2, e3, e4, e5⟩ := h1
      exact ⟨c, T, fr, e1, e2, e3, e4, fun e => e5 (hw e)⟩
  · rcases b with _ | _ | _ | _ | (_ | _ | _ | _) <;> first
      | exact h
      | (refine absurd (fun es => ?_) hm; simp; done)
theorem arel_ren {π : List (Nat × Nat)} {c : SV} {y : Value} : arel ρ (c.renA π) y ↔ arel (fun i => ρ (rn π i)) c y := by
  cases c <;> exact Iff.rfl
theorem all2_map_iff {α β γ : Type} {R : α → β → Prop} {S : γ → β → Prop} {f : γ → α} (h : ∀ c b, R (f c) b ↔ S c b) (l : List γ) (m : List β) : All2 R (l.map f) m ↔ All2 S l m := by
  rw [All2.map_left]
  exact ⟨All2.mono fun a b _ => (h a b).1, All2.mono fun a b _ => (h a b).2⟩
theorem crel_ren {π : List (Nat × Nat)} {c : SV} {y : Value} : crel ρ (c.renB π) y ↔ crel (fun i => ρ (rn π i)) c y := by
  cases c
  case fn f caps =>
    simp only [SV.renB, crel]
    exact exists_congr fun ys => and_congr Iff.rfl (all2_map_iff (fun c b => arel_ren) caps ys)
  all_goals exact Iff.rfl
theorem srel_ren {π : List (Nat × Nat)} {c : SV} {y : Value} : srel ρ (c.renC π) y ↔ srel (fun i => ρ (rn π i)) c y := by
  cases c
  case agg cs =>
    simp only [SV.renC, srel]
    exact exists_congr fun ys => and_congr Iff.rfl (all2_map_iff (fun c b => crel_ren) cs ys)
  case ai => exact Iff.rfl
  case fn => exact crel_ren (c := .fn _ _)
  all_goals exact Iff.rfl
theorem rel_ren {π : List (Nat × Nat)} {c : SV} {y : Value} : rel ρ (c.ren π) y ↔ rel (fun i => ρ (rn π i)) c y := by
  cases c
  case tup cs =>
    simp only [SV.ren, rel]
    exact exists_congr fun ys => and_congr Iff.rfl (all2_map_iff (fun c b => srel_ren) cs ys)
  case agg cs => exact srel_ren (c := .agg cs)
  case ai => exact Iff.rfl
  case fn => exact crel_ren (c := .fn _ _)
  all_goals exact Iff.rfl
theorem cells_ren {π : List (Nat × Nat)} (b : Body) : (b.ren π).cells = b.cells.map (SV.renB π) := by
  rcases b with _ | _ | _ | _ | (_ | _ | _ | _) <;> simp [Body.ren, Body.cells, SV.renB, SV.renA, Function.comp_def]
theorem objOK_ren {π : List (Nat × Nat)} {l : Loc} {wr : Bool} {b : Body} : ObjOK ρ w l ⟨wr, b.ren π⟩ → ObjOK (fun i => ρ (rn π i)) w l ⟨wr, b⟩ := by
  have key : RowOK ρ w l wr (b.ren π).cells → RowOK (fun i => ρ (rn π i)) w l wr b.cells := by
    rw [cells_ren]
    unfold RowOK
    cases l.blk with
    | none => simp
    | some k =>
      rintro ⟨c, T, fr, h1, h2, h3, h4, h5⟩
      refine ⟨c, T, fr, h1, h2, by simpa using h3, fun j x hx => ?_, h5⟩
      obtain ⟨y, e, hr⟩ := h4 j (x.renB π) (by simp [hx])
      exact ⟨y, e, crel_ren.1 hr⟩
  by_cases hm : ∀ es, b ≠ .mp es
  · intro h
    obtain ⟨h1, h2⟩ := h.row (ren_mp.2 hm)
    exact ObjOK.mk hm (key h1) (h2.to (isS_ren b).symm id)
  · rcases b with _ | _ | _ | _ | (_ | _ | _ | _) <;> first
      | exact id
      | (refine absurd (fun es => ?_) hm; simp; done)
      | (rintro ⟨k, h1, h2, h3⟩
         refine ⟨k, h1, h2, fun t v hv => ?_⟩
         obtain ⟨x, e1, e2⟩ := h3 t (v.ren π) (by rw [lk_map, hv]; rfl)
         exact ⟨x, e1, rel_ren.1 e2⟩)
def objSub (π : List (Nat × Nat)) (s : Hp) (i : Nat) (o : SO) : Prop :=
  if rn π i = 0 then o.b.cells = [] ∧ (∀ es, o.b ≠ .mp es) else (o.wr = true → rn π i < 1000) ∧ ob (s.get (rn π i)) fun o' => (o.wr = true → o'.wr = true) ∧ o'.b = o.b.ren π
def hpSub (π : List (Nat × Nat)) (s : Hp) : List (Nat × Option SO) → Prop
  | [] => True
  | (i, some o) :: r => objSub π s i o ∧ hpSub π s r
  | (_, none) :: r => hpSub π s r
def tmSub (π : List (Nat × Nat)) (tm : List (Nat × SV)) : List (Nat × SV) → Prop
  | [] => True
  | (t, v) :: r => ob (lk tm t) (fun u => u = v.ren π) ∧ tmSub π tm r
def apart1 (π : List (Nat × Nat)) (i : Nat) : List (Nat × Option SO) → Bool
  | [] => true
  | (j, some _) :: r => (i == j || rn π i != rn π j) && apart1 π i r
  | (_, none) :: r => apart1 π i r
def apartB (π : List (Nat × Nat)) (all : List (Nat × Option SO)) : List (Nat × Option SO) → Bool
  | [] => true
  | (i, some o) :: r => (!o.wr || rn π i == 0 || apart1 π i all) && apartB π all r
  | (_, none) :: r => apartB π all r
def wfTm (n : Nat) : List (Nat × SV) → Bool
  | [] => true
  | (_, v) :: r => ltT n v && wfTm n r
def wfHp (n : Nat) : List (Nat × Option SO) → Bool
  | [] => true
  | (i, some o) :: r => decide (i < n) && decide (0 < i) && o.b.lt n && wfHp n r
  | (i, none) :: r => decide (i < n) && wfHp n r
def okπ (base : Nat) : List (Nat × Nat) → Bool
  | [] => true
  | (i, j) :: r => decide (base ≤ i) && decide (i < 1000) && okπ base r
theorem okπ_spec {base : Nat} : ∀ {π : List (Nat × Nat)}, okπ base π = true → ∀ i, (i < base ∨ 1000 ≤ i) → rn π i = i
  | [], _, i, _ => rfl
  | (k, j) :: r, h, i, hi => by
    simp only [okπ, Bool.and_eq_true, decide_eq_true_eq] at h
    have := okπ_spec h.2 i hi
    simp only [rn, lk] at this ⊢
    rw [if_neg (by omega)]; exact this
theorem hpSub_mem {π : List (Nat × Nat)} {s : Hp} : ∀ {l : List (Nat × Option SO)}, hpSub π s l → ∀ i o, (i, some o) ∈ l → objSub π s i o
  | (k, some q) :: r, h, i, o, hm => by
    rcases List.mem_cons.1 hm with e | hm
    · cases e; exact h.1
    · exact hpSub_mem h.2 i o hm
  | (k, none) :: r, h, i, o, hm => by
    rcases List.mem_cons.1 hm with e | hm
    · cases e
    · exact hpSub_mem (l := r) h i o hm
theorem wfHp_mem {k : Nat} : ∀ {l : List (Nat × Option SO)}, wfHp k l = true → ∀ i o, (i, some o) ∈ l → i < k ∧ 0 < i ∧ o.b.lt k = true
  | (j, some q) :: r, h, i, o, hm => by
    simp only [wfHp, Bool.and_eq_true, decide_eq_true_eq] at h
    rcases List.mem_cons.1 hm with e | hm
    · cases e; exact ⟨h.1.1.1, h.1.1.2, h.1.2⟩
    · exact wfHp_mem h.2 i o hm
  | (j, none) :: r, h, i, o, hm => by
    simp only [wfHp, Bool.and_eq_true] at h
    rcases List.mem_cons.1 hm with e | hm
    · cases e
    · exact wfHp_mem (l := r) h.2 i o hm
theorem wfHp_lk {k : Nat} : ∀ {l : List (Nat × Option SO)}, wfHp k l = true → ∀ i r, lk l i = some r → i < k
  | (j, some q) :: l, h, i, r, hl => by
    simp only [wfHp, Bool.and_eq_true, decide_eq_true_eq] at h
    simp only [lk] at hl
    split at hl
    · rename_i e; subst e; exact h.1.1.1
    · exact wfHp_lk h.2 i r hl
  | (j, none) :: l, h, i, r, hl => by
    simp only [wfHp, Bool.and_eq_true, decide_eq_true_eq] at h
    simp only [lk] at hl
    split at hl
    · rename_i e; subst e; exact h.1
    · exact wfHp_lk h.2 i r hl
theorem apart1_mem {π : List (Nat × Nat)} {i : Nat} : ∀ {l : List (Nat × Option SO)}, apart1 π i l = true → ∀ j o, (j, some o) ∈ l → i = j ∨ rn π i ≠ rn π j
  | (k, some q) :: r, h, j, o, hm => by
    simp only [apart1, Bool.and_eq_true, Bool.or_eq_true, beq_iff_eq, bne_iff_ne] at h
    rcases List.mem_cons.1 hm with e | hm
    · cases e; exact h.1
    · exact apart1_mem h.2 j o hm
  | (k, none) :: r, h, j, o, hm => by
    rcases List.mem_cons.1 hm with e | hm
    · cases e
    · exact apart1_mem (l := r) h j o hm
theorem apartB_mem {π : List (Nat × Nat)} {all : List (Nat × Option SO)} : ∀ {l : List (Nat × Option SO)}, apartB π all l = true → ∀ i o, (i, some o) ∈ l → o.wr = true → rn π i = 0 ∨ apart1 π i all = true
  | (k, some q) :: r, h, i, o, hm, hw => by
    simp only [apartB, Bool.and_eq_true, Bool.or_eq_true, beq_iff_eq, Bool.not_eq_true'] at h
    rcases List.mem_cons.1 hm with e | hm
    · cases e
      rcases h.1 with (h1 | h1) | h1
      · rw [hw] at h1; cases h1
      · exact .inl h1
      · exact .inr h1
    · exact apartB_mem h.2 i o hm hw
  | (k, none) :: r, h, i, o, hm, hw => by
    rcases List.mem_cons.1 hm with e | hm
    · cases e
    · exact apartB_mem (l := r) h i o hm hw
theorem wfTm_mem {k : Nat} : ∀ {l : List (Nat × SV)}, wfTm k l = true → ∀ t v, (t, v) ∈ l → ltT k v = true
  | (j, q) :: r, h, i, o, hm => by
    simp only [wfTm, Bool.and_eq_true] at h
    rcases List.mem_cons.1 hm with e | hm
    · cases e; exact h.1
    · exact wfTm_mem h.2 i o hm
theorem tmSub_mem {π : List (Nat × Nat)} {tm : List (Nat × SV)} : ∀ {l : List (Nat × SV)}, tmSub π tm l → ∀ t v, (t, v) ∈ l → lk tm t = some (v.ren π)
  | (j, q) :: r, h, i, o, hm => by
    rcases List.mem_cons.1 hm with e | hm
    · cases e
      obtain ⟨u, h1, h2⟩ := ob_elim h.1
      rw [h1, h2]
    · exact tmSub_mem h.2 i o hm
theorem HRel.rename {H' : Hp} {n' base : Nat} (hH : HRel F w0 ρ n H w) (π : List (Nat × Nat)) (hπ : okπ base π = true) (hx : H'.x = H.x) (hs : hpSub π H H'.l) (ha : apartB π H'.l H'.l = true) (hwf : wfHp n' H'.l = true) (hn' : 0 < n') (hb0 : 0 < base) (h1000 : n' ≤ 1000) :
    HRel F w0 (fun i => ρ (rn π i)) n' H' w := by
  have hget : ∀ i o, H'.get i = some o → (i, some o) ∈ H'.l ∨ (H.x i = some o) := fun i o h => by
    unfold Hp.get at h
    cases hl : lk H'.l i with
    | some r => rw [hl] at h; simp only [] at h; subst h; exact .inl (lk_mem hl)
    | none => rw [hl] at h; simp only [] at h; rw [hx] at h; exact .inr h
  have hx1 : ∀ i o, H.x i = some o → ¬ (∃ q, (i, some q) ∈ H'.l) := fun i o h ⟨q, hq⟩ => by
    have := (hH.xok i o h).1
    have := (wfHp_mem hwf i q hq).1; omega
  -- of a listed object: what it is in the old heap
  have hold : ∀ i o, (i, some o) ∈ H'.l → (rn π i = 0 ∧ o.b.cells = [] ∧ ∀ es, o.b ≠ .mp es) ∨ (rn π i ≠ 0 ∧ (o.wr = true → rn π i < 1000) ∧ ∃ o', H.get (rn π i) = some o' ∧ (o.wr = true → o'.wr = true) ∧ o'.b = o.b.ren π) := fun i o hm => by
    have := hpSub_mem hs i o hm
    unfold objSub at this
    split at this
    · rename_i e; exact .inl ⟨e, this⟩
    · rename_i e
      obtain ⟨h1, h2⟩ := this
      obtain ⟨o', q1, q2, q3⟩ := ob_elim h2
      exact .inr ⟨e, h1, o', q1, q2, q3⟩
  have hxfix : ∀ i o, H.x i = some o → rn π i = i := fun i o h => okπ_spec hπ i (.inr (hH.xok i o h).1)
  have hxget : ∀ i o, H.x i = some o → H.get i = some o := fun i o h => by
    unfold Hp.get; rw [(hH.xok i o h).2.2.2]; exact h
  -- an object of the old heap behind each
  have hbk : ∀ i o b, H'.get i = some o → (ρ (rn π i)).blk = some b → ∃ o', H.get (rn π i) = some o' ∧ (o.wr = true → o'.wr = true) := fun i o b hg hb => by
    rcases hget i o hg with hm | hm
    · rcases hold i o hm with ⟨e, _, _⟩ | ⟨_, hlt, o', q1, q2, _⟩
      · rw [e, hH.nil.1] at hb; cases hb
      · exact ⟨o', q1, q2⟩
    · exact ⟨o, by rw [hxfix i o hm]; exact hxget i o hm, id⟩
  refine ⟨hH.os, hH.tape, hH.output, hH.size, hH.keep, hH.old, ?_, hn', ?_, ?_, ?_, ?_, ?_, ?_, fun i T c b e1 e2 => hH.shp (rn π i) T c b e1 e2, hH.shk, hH.gl.same fun i hi => congrArg ρ (okπ_spec hπ i (.inr hi))⟩
  · show (ρ (rn π 0)).blk = none ∧ (ρ (rn π 0)).size = 0
    rw [okπ_spec hπ 0 (.inl hb0)]; exact hH.nil
  · intro i o hg
    rcases hget i o hg with hm | hm
    · rcases hold i o hm with ⟨e, h1, h2⟩ | ⟨_, hlt, o', q1, q2, q3⟩
      · refine ObjOK.mk h2 ?_ (fun hne => absurd (by show (ρ (rn π i)).blk = none; rw [e]; exact hH.nil.1) hne)
        unfold RowOK
        rw [e, hH.nil.1]
        exact h1
      · have := hH.obj (rn π i) o' q1
        obtain ⟨wr', b'⟩ := o'
        obtain ⟨wr, b⟩ := o
        simp only at q2 q3
        subst q3
        exact (objOK_ren this).weak q2
    · have h1 := hH.obj i o (hxget i o hm)
      have h2 := (hH.xok i o hm).2.2.1
      have h3 : Ext 1 ρ (fun i => ρ (rn π i)) := fun j hj => by
        show ρ (rn π j) = ρ j
        rw [okπ_spec hπ j (by unfold idOK at hj; simp at hj; omega)]
      show ObjOK _ w (ρ (rn π i)) o
      rw [hxfix i o hm]
      exact ObjOK.ext h3 h2 h1
  · intro i o hg
    rcases hget i o hg with hm | hm
    · have := wfHp_mem hwf i o hm
      exact ⟨by unfold idOK; simp; omega, this.2.2⟩
    · obtain ⟨h1, _, h3, _⟩ := hH.xok i o hm
      exact ⟨by unfold idOK; simp; omega, Body.lt_mono hn' h3⟩
  · intro i o b hg hw hb
    obtain ⟨o', q1, q2⟩ := hbk i o b hg hb
    exact hH.own _ o' b q1 (q2 hw) hb
  · intro i j o1 o2 b hij hg1 hg2 hw hb1 hb2
    obtain ⟨p1, q1, r1⟩ := hbk i o1 b hg1 hb1
    obtain ⟨p2, q2, r2⟩ := hbk j o2 b hg2 hb2
    refine hH.inj (rn π i) (rn π j) p1 p2 b ?_ q1 q2 (r1 hw) hb1 hb2
    intro e
    rcases hget i o1 hg1 with hm | hm
    · rcases apartB_mem ha i o1 hm hw with h0 | h0
      · rw [h0, hH.nil.1] at hb1; cases hb1
      · rcases hget j o2 hg2 with hm2 | hm2
        · rcases apart1_mem h0 j o2 hm2 with h5 | h5
          · exact hij h5
          · exact h5 e
        · rcases hold i o1 hm with ⟨e0, _, _⟩ | ⟨_, hlt, _⟩
          · rw [e0, hH.nil.1] at hb1; cases hb1
          · have := (hH.xok j o2 hm2).1
            rw [hxfix j o2 hm2] at e; have := hlt hw; omega
    · rw [(hH.xok i o1 hm).2.1] at hw; cases hw
  · intro i o b hg hb
    obtain ⟨o', q1, _⟩ := hbk i o b hg hb
    exact hH.live _ o' b q1 hb
  · rw [hx]
    intro i o hm
    obtain ⟨h1, h2, h3, _⟩ := hH.xok i o hm
    refine ⟨h1, h2, h3, ?_⟩
    cases hl : lk H'.l i with
    | none => rfl
    | some r => have := wfHp_lk hwf i r hl; omega
end Go.Sx

/- What an operation looks at; what it does not. -/
set_option linter.unusedVariables false
set_option linter.unusedSimpArgs false
namespace Go.Sx
variable {C : Tab} {tm tm' : List (Nat × SV)} {H H' : Hp} {n n' : Nat}
def MA.uses : MA → List Nat
  | .t n => [n]
  | .k _ => []
def MO.args : MO → List MA
  | .mov x | .un _ x | .conv _ x | .r2s x | .s2b x | .b2s x | .box x | .boxT x _ | .ld x | .ldn x _ | .nilck x | .fld x _ _ _ | .fadr x _ | .lenS x | .lenL x | .lenM x | .ext x _ | .slnil _ x => [x]
  | .pick c a b => [c, a, b]
  | .bin _ x y | .binB _ x y | .binA _ x y _ | .binP _ x y | .st x y | .stn x y _ | .idxA x y _ | .idxP x y _ _ | .idxS x y | .idxV x y _ | .mk _ x y _ _ | .app x y _ _ _ | .appS x y _ | .appST x y _ _ | .appZ x y _ _ _ _ | .cpy x y _ | .cpyS x y => [x, y]
  | .alloc _ => []
  | .allocT _ _ _ => []
  | .mkM => []
  | .luM x k _ _ => [x, k]
  | .upM x k y => [x, k, y]
  | .delM x k => [x, k]
  | .bld _ ps => ps.map (·.2.2)
  | .bldI _ _ ps => ps.map (·.2)
  | .rowI _ xs | .rowS xs | .rowV _ _ xs | .call _ xs | .mkfn _ xs => xs
  | .slS x a b | .slL x a b _ | .slP x a b _ _ => x :: (a.toList ++ b.toList)
  | .slM x a b c _ => x :: b :: c :: a.toList
  | .mm _ x xs | .callv x xs => x :: xs
def MO.uses (o : MO) : List Nat := o.args.flatMap MA.uses
def MOp.uses (o : MOp) : List Nat := o.op.uses ++ (match o.g with
  | some (t, _) => [t]
  | none => [])
theorem evs_congr {l : List MA} (h : ∀ m ∈ l, ev tm m = ev tm' m) : evs tm l = evs tm' l := by
  induction l with
  | nil => rfl
  | cons x l ih =>
    simp only [evs]
    rw [h x (List.mem_cons_self ..), ih fun m hm => h m (List.mem_cons_of_mem _ hm)]
theorem evp_congr {l : List (Nat × MA)} (h : ∀ m ∈ l.map (·.2), ev tm m = ev tm' m) : evp tm l = evp tm' l := by
  induction l with
  | nil => rfl
  | cons x l ih =>
    obtain ⟨o, x⟩ := x
    simp only [evp]
    rw [h x (List.mem_cons_self ..), ih fun m hm => h m (List.mem_cons_of_mem _ hm)]
theorem evq_congr {top : Nat} {l : List (Nat × Nat × MA)} (h : ∀ m ∈ l.map (·.2.2), ev tm m = ev tm' m) : evq tm top l = evq tm' top l := by
  induction l with
  | nil => rfl
  | cons x l ih =>
    obtain ⟨o, z, x⟩ := x
    simp only [evq]
    rw [h x (List.mem_cons_self ..), ih fun m hm => h m (List.mem_cons_of_mem _ hm)]
theorem bnd_congr {x : Option MA} {d : Int} {K : Int → Prop} (h : ∀ m ∈ x.toList, ev tm m = ev tm' m) : bnd tm x d K = bnd tm' x d K := by
  cases x with
  | none => rfl
  | some m => simp only [bnd]; rw [h m (by simp)]
theorem sop_congr {o : MO} {K : SV → Hp → Nat → Prop} (h : ∀ m ∈ o.args, ev tm m = ev tm' m) : sop C tm H n o K = sop C tm' H n o K := by
  cases o
  case bld z ps => simp only [sop]; rw [evq_congr h]
  case bldI k m ps => simp only [sop]; rw [evp_congr h]
  case rowI k xs => simp only [sop]; rw [evs_congr (l := xs) h]
  case rowS xs => simp only [sop]; rw [evs_congr (l := xs) h]
  case rowV z e xs => simp only [sop]; rw [evs_congr (l := xs) h]
  case call f xs => simp only [sop]; rw [evs_congr (l := xs) h]
  case mkfn f xs => simp only [sop]; rw [evs_congr (l := xs) h]
  case callv x xs => simp only [sop]; rw [h x (List.mem_cons_self ..), evs_congr fun m hm => h m (List.mem_cons_of_mem _ hm)]
  case mm mn x xs => simp only [sop]; rw [h x (List.mem_cons_self ..), evs_congr fun m hm => h m (List.mem_cons_of_mem _ hm)]
  case slS x a b =>
    simp only [MO.args, List.mem_cons, List.mem_append] at h
    simp only [sop]; rw [h x (.inl rfl)]
    simp only [bnd_congr (x := a) fun m hm => h m (.inr (.inl hm)), bnd_congr (x := b) fun m hm => h m (.inr (.inr hm))]
  case slL x a b z =>
    simp only [MO.args, List.mem_cons, List.mem_append] at h
    simp only [sop]; rw [h x (.inl rfl)]
    simp only [bnd_congr (x := a) fun m hm => h m (.inr (.inl hm)), bnd_congr (x := b) fun m hm => h m (.inr (.inr hm))]
  case slM x a b c z =>
    simp only [MO.args, List.mem_cons] at h
    simp only [sop]; rw [h x (.inl rfl), h b (.inr (.inl rfl)), h c (.inr (.inr (.inl rfl)))]
    simp only [bnd_congr (x := a) fun m hm => h m (.inr (.inr (.inr hm)))]
  case slP x a b m z =>
    simp only [MO.args, List.mem_cons, List.mem_append] at h
    simp only [sop]; rw [h x (.inl rfl)]
    simp only [bnd_congr (x := a) fun m hm => h m (.inr (.inl hm)), bnd_congr (x := b) fun m hm => h m (.inr (.inr hm))]
  case pick c a b =>
    simp only [MO.args, List.mem_cons, List.not_mem_nil, or_false] at h
    have e : ∀ t : Bool, ev tm (if t then a else b) = ev tm' (if t then a else b) := fun t => by cases t <;> simp [h]
    simp only [sop, e, h c (.inl rfl)]
  all_goals
    simp only [MO.args, List.mem_cons, List.not_mem_nil, or_false, forall_eq_or_imp, forall_eq] at h
    simp only [sop, h]
theorem ob_mono {α : Type} {x : Option α} {K K' : α → Prop} (h : ∀ a, K a → K' a) (hk : ob x K) : ob x K' := by
  cases x with
  | none => exact hk
  | some a => exact h a hk
theorem asI_mono {a : SV} {K K' : Int → Prop} (h : ∀ x, K x → K' x) (hk : asI a K) : asI a K' := by
  unfold asI at hk ⊢; split at hk <;> simp_all
theorem asB_mono {a : SV} {K K' : Bool → Prop} (h : ∀ x, K x → K' x) (hk : asB a K) : asB a K' := by
  unfold asB at hk ⊢; split at hk
  · exact h _ hk
  · exact hk.elim
theorem asS_mono {a : SV} {K K' : ByteArray → Prop} (h : ∀ x, K x → K' x) (hk : asS a K) : asS a K' := by
  unfold asS at hk ⊢; split at hk <;> simp_all
theorem asP_mono {a : SV} {K K' : Nat → Nat → Prop} (h : ∀ x y, K x y → K' x y) (hk : asP a K) : asP a K' := by
  unfold asP at hk ⊢; split at hk <;> simp_all
theorem asSl_mono {a : SV} {K K' : Nat → Nat → Nat → Nat → Prop} (h : ∀ x y z u, K x y z u → K' x y z u) (hk : asSl a K) : asSl a K' := by
  unfold asSl at hk ⊢; split at hk <;> simp_all
theorem asBy_mono {a : Body} {K K' : List Int → Prop} (h : ∀ x, K x → K' x) (hk : asBy a K) : asBy a K' := by
  unfold asBy at hk ⊢; split at hk <;> simp_all
theorem asM_mono {a : Body} {K K' : List (Value × Value) → Prop} (h : ∀ x, K x → K' x) (hk : asM a K) : asM a K' := by
  unfold asM at hk ⊢; split at hk <;> simp_all
theorem plV_mono {c : SV} {K K' : Value → Prop} (h : ∀ x, K x → K' x) (hk : plV c K) : plV c K' := by
  unfold plV at hk ⊢
  split at hk
  · exact h _ hk
  · exact ob_mono (fun _ => h _) hk
  · exact h _ hk
  · exact hk.elim
theorem mpOf_mono {a : SV} {K K' : List (Value × Value) → Prop} (h : ∀ x, K x → K' x) (hk : mpOf H a K) : mpOf H a K' := by
  unfold mpOf at hk ⊢
  split at hk
  · exact ob_mono (fun _ => asM_mono h) hk
  · exact h _ hk
  · exact hk.elim
theorem mpUp_mono {a : SV} {K K' : Nat → List (Value × Value) → Prop} (h : ∀ i x, K i x → K' i x) (hk : mpUp H a K) : mpUp H a K' := by
  unfold mpUp at hk ⊢
  split at hk
  · exact ob_mono (fun _ ⟨h1, h2⟩ => ⟨h1, asM_mono (h _) h2⟩) hk
  · exact hk.elim
theorem fresh_mono {b : Body} {K K' : Hp → Nat → Prop} (h : ∀ x y, K x y → K' x y) (hk : fresh H n b K) : fresh H n b K' := ⟨hk.1, h _ _ hk.2⟩
theorem bnd_mono {x : Option MA} {d : Int} {K K' : Int → Prop} (h : ∀ x, K x → K' x) (hk : bnd tm x d K) : bnd tm x d K' := by
  cases x with
  | none => exact h _ hk
  | some m => exact ob_mono (fun a => asI_mono h) hk
theorem ibin_mono {op : BinOp} {k k' : IntKind} {x y : Int} {K K' : SV → Prop} (h : ∀ x, K x → K' x) (hk : ibin op k x k' y K) : ibin op k x k' y K' := by
  cases op <;> simp only [ibin] at hk ⊢ <;> first
    | exact ⟨hk.1, h _ hk.2⟩
    | exact ⟨hk.1, hk.2.1, h _ hk.2.2⟩
theorem sbin_mono {op : BinOp} {a b : SV} {K K' : SV → Prop} (h : ∀ x, K x → K' x) (hk : sbin op a b K) : sbin op a b K' := by
  unfold sbin at hk ⊢
  split at hk
  · exact ibin_mono h hk
  · unfold strbin at hk ⊢; split at hk <;> simp_all
  · exact hk.elim
theorem sbinB_mono {op : BinOp} {a b : SV} {K K' : SV → Prop} (h : ∀ x, K x → K' x) (hk : sbinB op a b K) : sbinB op a b K' := by
  unfold sbinB boolbin at hk ⊢
  split at hk
  · split at hk <;> simp_all
  · exact hk.elim
theorem sbinP_mono {op : BinOp} {a b : SV} {K K' : SV → Prop} (h : ∀ x, K x → K' x) (hk : sbinP op a b K) : sbinP op a b K' := by
  unfold sbinP ptrbin at hk ⊢
  split at hk <;> first
    | exact hk.elim
    | (split at hk <;> simp_all)
theorem sbinA_mono {op : BinOp} {fs : List Nat} {a b : SV} {K K' : SV → Prop} (h : ∀ x, K x → K' x) (hk : sbinA op fs a b K) : sbinA op fs a b K' := by
  unfold sbinA at hk ⊢
  split at hk
  · refine ob_mono (fun e hk => ?_) hk
    unfold ptrbin at hk ⊢
    split at hk <;> simp_all
  · exact hk.elim
theorem sun_mono {op : UnOp} {a : SV} {K K' : SV → Prop} (h : ∀ x, K x → K' x) (hk : sun op a K) : sun op a K' := by
  unfold sun at hk ⊢
  split at hk <;> simp_all
theorem fldOf_mono {a : SV} {off m : Nat} {ag : Bool} {K K' : SV → Prop} (h : ∀ x, K x → K' x) (hk : fldOf a off m ag K) : fldOf a off m ag K' := by
  unfold fldOf at hk ⊢
  split at hk
  · split at hk <;> rename_i e <;> simp only [e, if_true, Bool.false_eq_true, if_false] at hk ⊢
    · exact ⟨hk.1, h _ hk.2⟩
    · exact ob_mono h hk
  · split at hk <;> rename_i e <;> simp only [e, if_true, Bool.false_eq_true, if_false] at hk ⊢
    · exact ⟨hk.1, h _ hk.2⟩
    · exact ⟨hk.1, h _ hk.2⟩
  · split at hk <;> rename_i e <;> simp only [e, if_true, Bool.false_eq_true, if_false] at hk ⊢
    · exact ⟨hk.1, h _ hk.2⟩
    · exact ob_mono (fun _ => h _) hk
  · exact hk.elim
theorem get_mono {b : Body} {o : Nat} {K K' : SV → Prop} (h : ∀ x, K x → K' x) (hk : b.get o K) : b.get o K' := by
  cases b <;> simp only [Body.get] at hk ⊢ <;> first
    | exact ⟨hk.1, h _ hk.2⟩
    | exact ob_mono (fun _ => h _) hk
    | exact hk
theorem getN_mono {b : Body} {o m : Nat} {K K' : SV → Prop} (h : ∀ x, K x → K' x) (hk : b.getN o m K) : b.getN o m K' := by
  cases b <;> simp only [Body.getN] at hk ⊢ <;> first
    | exact ⟨hk.1, h _ hk.2⟩
    | exact hk
theorem set_mono {b : Body} {o : Nat} {a : SV} {K K' : Body → Prop} (h : ∀ x, K x → K' x) (hk : b.set o a K) : b.set o a K' := by
  unfold Body.set at hk ⊢; split at hk <;> simp_all
theorem setN_mono {b : Body} {o m : Nat} {a : SV} {K K' : Body → Prop} (h : ∀ x, K x → K' x) (hk : b.setN o m a K) : b.setN o m a K' := by
  unfold Body.setN at hk ⊢; split at hk <;> first
    | exact hk.elim
    | exact ⟨hk.1, hk.2.1, hk.2.2.1, h _ hk.2.2.2⟩
    | exact ⟨hk.1, hk.2.1, h _ hk.2.2⟩
    | exact ob_mono (fun _ hk => ⟨hk.1, hk.2.1, hk.2.2.1, h _ hk.2.2.2⟩) hk
    | exact ob_mono (fun _ hk => ⟨hk.1, hk.2.1, h _ hk.2.2⟩) hk
theorem part_mono {b : Body} {o m : Nat} {K K' : Body → Prop} (h : ∀ x, K x → K' x) (hk : b.part o m K) : b.part o m K' := by
  cases b <;> simp only [Body.part] at hk ⊢ <;> first
    | exact ⟨hk.1, h _ hk.2⟩
    | exact hk
theorem cat_mono {b c : Body} {K K' : Body → Prop} (h : ∀ x, K x → K' x) (hk : b.cat c K) : b.cat c K' := by
  unfold Body.cat at hk ⊢; split at hk <;> simp_all
theorem over_mono {b c : Body} {o : Nat} {K K' : Body → Prop} (h : ∀ x, K x → K' x) (hk : b.over o c K) : b.over o c K' := by
  unfold Body.over at hk ⊢; split at hk <;> first
    | exact hk.elim
    | exact ⟨hk.1, hk.2.1, h _ hk.2.2⟩
    | exact ⟨hk.1, h _ hk.2⟩
    | exact ob_mono (fun _ hk => ⟨hk.1, h _ hk.2⟩) hk
theorem rowOf_mono {i o m : Nat} {e : Body} {K K' : Body → Prop} (h : ∀ x, K x → K' x) (hk : rowOf H i o m e K) : rowOf H i o m e K' := by
  unfold rowOf at hk ⊢
  split at hk <;> rename_i c
  · rw [if_pos c]; exact h _ hk
  · rw [if_neg c]; exact ob_mono (fun s => part_mono h) hk
theorem and_mono_right {p q q' : Prop} (h : q → q') (hk : p ∧ q) : p ∧ q' := ⟨hk.1, h hk.2⟩
theorem appC_mono {i o m q z : Nat} {e b1 b2 : Body} {K K' : SV → Hp → Nat → Prop} (h : ∀ v H n, K v H n → K' v H n) (hk : appC H n i o m q z e b1 b2 K) : appC H n i o m q z e b1 b2 K' := by
  have kill : (b1.cat b2 fun b => fresh (H.kill i) n b fun H' n' => K (.sl n 0 (m + q) z) H' n') → (b1.cat b2 fun b => fresh (H.kill i) n b fun H' n' => K' (.sl n 0 (m + q) z) H' n') := cat_mono fun _ => fresh_mono fun _ _ => h _ _ _
  unfold appC at hk ⊢
  simp only at hk ⊢
  split at hk
  · split at hk
    · rename_i e0; rw [if_pos e0]; exact kill hk
    · rename_i e0
      rw [if_neg e0]
      rcases hk with hk | hk | hk
      · exact .inl (kill hk)
      · exact .inr (.inl (ob_mono (fun s => and_mono_right (and_mono_right (and_mono_right (over_mono fun _ => h _ _ _)))) hk))
      · exact .inr (.inr (ob_mono (fun s => and_mono_right (and_mono_right (and_mono_right (cat_mono fun _ => h _ _ _)))) hk))
  · exact kill hk
theorem sop_mono {o : MO} {K K' : SV → Hp → Nat → Prop} (h : ∀ v H n, K v H n → K' v H n) : sop C tm H n o K → sop C tm H n o K' := by
  cases o <;> simp only [sop]
  case box x =>
    refine ob_mono fun a => ?_
    cases a with
    | v x =>
      cases x <;> first
        | exact fresh_mono fun _ _ => h _ _ _
        | exact id
        | (rename_i c; obtain ⟨c⟩ := c; exact fresh_mono fun _ _ => h _ _ _)
    | tup => exact id
    | _ => exact fresh_mono fun _ _ => h _ _ _
  case allocT b T c => exact and_mono_right (h _ _ _)
  case boxT x T =>
    refine ob_mono fun a => ?_
    split
    · exact and_mono_right (h _ _ _)
    · exact id
  case appST x y e T =>
    exact ob_mono fun _ => ob_mono fun _ => asSl_mono fun _ _ _ _ => asS_mono fun _ => and_mono_right (and_mono_right (and_mono_right (and_mono_right (rowOf_mono fun _ => cat_mono fun _ => and_mono_right (h _ _ _)))))
  case nilck x =>
    refine ob_mono fun a => ?_
    split <;> first | exact h _ _ _ | exact id
  case lenM x =>
    refine ob_mono fun a => ?_
    split <;> first | exact h _ _ _ | exact id | exact ob_mono fun _ => asM_mono fun _ => h _ _ _
  case luM x k z ok => exact ob_mono fun _ => ob_mono fun _ => asS_mono fun _ => mpOf_mono fun _ => and_mono_right (h _ _ _)
  case upM x k y => exact ob_mono fun _ => ob_mono fun _ => ob_mono fun _ => asS_mono fun _ => plV_mono fun _ => mpUp_mono fun _ _ => and_mono_right (h _ _ _)
  case delM x k => exact ob_mono fun _ => ob_mono fun _ => asS_mono fun _ => mpUp_mono fun _ _ => and_mono_right (h _ _ _)
  case slnil ne x =>
    refine ob_mono fun a => asSl_mono fun _ _ _ _ => ?_
    split
    · exact h _ _ _
    · exact ob_mono fun s hs => ⟨fun a b => h _ _ _ (hs.1 a b), h _ _ _ hs.2⟩
  case callv x xs =>
    refine ob_mono fun a => ob_mono fun l => ?_
    split <;> first | exact id | exact callK_mono h
  case ext x m =>
    refine ob_mono fun a => ?_
    split <;> first | exact id | exact ob_mono fun _ => h _ _ _
  all_goals
    repeat first
      | exact h _ _ _
      | exact callK_mono h
      | refine ob_mono fun _ => ?_
      | refine asI_mono fun _ => ?_
      | refine asB_mono fun _ => ?_
      | refine asS_mono fun _ => ?_
      | refine asP_mono fun _ _ => ?_
      | refine asSl_mono fun _ _ _ _ => ?_
      | refine asBy_mono fun _ => ?_
      | refine asM_mono fun _ => ?_
      | refine fresh_mono fun _ _ => ?_
      | refine bnd_mono fun _ => ?_
      | refine sbin_mono fun _ => ?_
      | refine sbinB_mono fun _ => ?_
      | refine sbinA_mono fun _ => ?_
      | refine sbinP_mono fun _ => ?_
      | refine sun_mono fun _ => ?_
      | refine fldOf_mono fun _ => ?_
      | refine get_mono fun _ => ?_
      | refine getN_mono fun _ => ?_
      | refine set_mono fun _ => ?_
      | refine setN_mono fun _ => ?_
      | refine part_mono fun _ => ?_
      | refine cat_mono fun _ => ?_
      | refine over_mono fun _ => ?_
      | refine rowOf_mono fun _ => ?_
      | exact appC_mono h
      | refine and_mono_right ?_
end Go.Sx

/- Regions whose order is drawn. -/
set_option linter.unusedVariables false
set_option linter.unusedSimpArgs false
namespace Go.Sx
variable {C : Tab} {tm tm' : List (Nat × SV)} {H H' : Hp} {n n' : Nat}
def MO.kind : MO → Nat
  | .mov _ | .pick .. | .bin .. | .binB .. | .binA .. | .binP .. | .un .. | .conv .. | .r2s .. | .bld .. | .bldI .. | .nilck _ | .fld .. | .fadr .. | .idxA .. | .idxP .. | .idxS .. | .idxV .. | .slS .. | .slL .. | .lenS _ | .lenL _ | .mm .. | .ext .. | .mkfn .. => 0
  | .b2s _ | .ld _ | .ldn .. | .lenM _ | .slP .. | .slM .. | .luM .. => 1
  | _ => 2
def Fn1 (A : (SV → Prop) → Prop) : Prop := ∀ K, A K → ∃ v, K v ∧ ∀ K' : SV → Prop, K' v → A K'
theorem Fn1.val (v : SV) : Fn1 (fun K => K v) := fun K h => ⟨v, h, fun _ h => h⟩
theorem Fn1.no : Fn1 (fun _ => False) := fun K h => h.elim
theorem Fn1.and {p : Prop} {B : (SV → Prop) → Prop} (h : Fn1 B) : Fn1 (fun K => p ∧ B K) := fun K ⟨hp, hk⟩ => let ⟨v, h1, h2⟩ := h K hk; ⟨v, h1, fun K' k => ⟨hp, h2 K' k⟩⟩
theorem Fn1.ob {α : Type} {x : Option α} {B : α → (SV → Prop) → Prop} (h : ∀ a, Fn1 (B a)) : Fn1 (fun K => ob x fun a => B a K) := fun K hk => by
  cases x with
  | none => exact hk.elim
  | some a => exact h a K hk
theorem Fn1.asI {a : SV} {B : Int → (SV → Prop) → Prop} (h : ∀ x, Fn1 (B x)) : Fn1 (fun K => asI a fun x => B x K) := by
  unfold Sx.asI; split
  · exact h _
  · exact Fn1.no
theorem Fn1.asB {a : SV} {B : Bool → (SV → Prop) → Prop} (h : ∀ x, Fn1 (B x)) : Fn1 (fun K => asB a fun x => B x K) := by
  unfold Sx.asB; split
  · exact h _
  · exact Fn1.no
theorem Fn1.asS {a : SV} {B : ByteArray → (SV → Prop) → Prop} (h : ∀ x, Fn1 (B x)) : Fn1 (fun K => asS a fun x => B x K) := by
  unfold Sx.asS; split
  · exact h _
  · exact Fn1.no
theorem Fn1.asP {a : SV} {B : Nat → Nat → (SV → Prop) → Prop} (h : ∀ x y, Fn1 (B x y)) : Fn1 (fun K => asP a fun x y => B x y K) := by
  unfold Sx.asP; split
  · exact h _ _
  · exact Fn1.no
theorem Fn1.asSl {a : SV} {B : Nat → Nat → Nat → Nat → (SV → Prop) → Prop} (h : ∀ x y z u, Fn1 (B x y z u)) : Fn1 (fun K => asSl a fun x y z u => B x y z u K) := by
  unfold Sx.asSl; split
  · exact h _ _ _ _
  · exact Fn1.no
theorem Fn1.asBy {a : Body} {B : List Int → (SV → Prop) → Prop} (h : ∀ x, Fn1 (B x)) : Fn1 (fun K => asBy a fun x => B x K) := by
  unfold Sx.asBy; split
  · exact h _
  · exact Fn1.no
theorem Fn1.asM {a : Body} {B : List (Value × Value) → (SV → Prop) → Prop} (h : ∀ x, Fn1 (B x)) : Fn1 (fun K => asM a fun x => B x K) := by
  unfold Sx.asM; split
  · exact h _
  · exact Fn1.no
theorem Fn1.bnd {x : Option MA} {d : Int} {B : Int → (SV → Prop) → Prop} (h : ∀ x, Fn1 (B x)) : Fn1 (fun K => bnd tm x d fun x => B x K) := by
  cases x with
  | none => exact h _
  | some m => exact Fn1.ob fun a => Fn1.asI h
theorem Fn1.ibin {op : BinOp} {k k' : IntKind} {x y : Int} : Fn1 (fun K => ibin op k x k' y K) := by
  cases op <;> simp only [Sx.ibin] <;> repeat first
    | exact Fn1.val _
    | refine Fn1.and ?_
theorem Fn1.sbin {op : BinOp} {a b : SV} : Fn1 (fun K => sbin op a b K) := by
  unfold Sx.sbin; split
  · exact Fn1.ibin
  · unfold strbin; split <;> first
      | exact Fn1.val _
      | exact Fn1.and (Fn1.val _)
      | exact Fn1.no
  · exact Fn1.no
theorem Fn1.sbinB {op : BinOp} {a b : SV} : Fn1 (fun K => sbinB op a b K) := by
  unfold Sx.sbinB boolbin; split
  · split <;> first
      | exact Fn1.val _
      | exact Fn1.no
  · exact Fn1.no
theorem Fn1.sbinA {op : BinOp} {fs : List Nat} {a b : SV} : Fn1 (fun K => sbinA op fs a b K) := by
  unfold Sx.sbinA; split
  · refine Fn1.ob fun e => ?_
    unfold ptrbin; split <;> first
      | exact Fn1.val _
      | exact Fn1.no
  · exact Fn1.no
theorem Fn1.sbinP {op : BinOp} {a b : SV} : Fn1 (fun K => sbinP op a b K) := by
  unfold Sx.sbinP ptrbin; split <;> first
    | exact Fn1.no
    | (split <;> first
        | exact Fn1.val _
        | exact Fn1.no)
theorem Fn1.sun {op : UnOp} {a : SV} : Fn1 (fun K => sun op a K) := by
  unfold Sx.sun; split <;> first
    | exact Fn1.val _
    | exact Fn1.no
theorem Fn1.fldOf {a : SV} {off m : Nat} {ag : Bool} : Fn1 (fun K => fldOf a off m ag K) := by
  cases ag <;> unfold Sx.fldOf <;> split <;> first
    | exact Fn1.val _
    | exact Fn1.and (Fn1.val _)
    | exact Fn1.ob fun _ => Fn1.val _
    | exact Fn1.no
theorem Fn1.get {b : Body} {o : Nat} : Fn1 (fun K => b.get o K) := by
  cases b <;> simp only [Body.get] <;> first
    | exact Fn1.and (Fn1.val _)
    | exact Fn1.ob fun _ => Fn1.val _
    | exact Fn1.no
theorem Fn1.getN {b : Body} {o m : Nat} : Fn1 (fun K => b.getN o m K) := by
  cases b <;> simp only [Body.getN] <;> first
    | exact Fn1.and (Fn1.val _)
    | exact Fn1.no
theorem Fn1.part {b : Body} {o m : Nat} {B : Body → (SV → Prop) → Prop} (h : ∀ x, Fn1 (B x)) : Fn1 (fun K => b.part o m fun x => B x K) := by
  cases b <;> simp only [Body.part] <;> first
    | exact Fn1.and (h _)
    | exact Fn1.no
theorem Fn1.rowOf {i o m : Nat} {e : Body} {B : Body → (SV → Prop) → Prop} (h : ∀ x, Fn1 (B x)) : Fn1 (fun K => rowOf H i o m e fun x => B x K) := by
  unfold Sx.rowOf; split
  · exact h _
  · exact Fn1.ob fun _ => Fn1.part h
theorem plain_fn {o : MO} (hk : o.kind = 0) (K : SV → Hp → Nat → Prop) (h : sop C tm H n o K) : ∃ v, K v H n ∧ ∀ H' n' (K' : SV → Hp → Nat → Prop), K' v H' n' → sop C tm H' n' o K' := by
  have key : ∀ A : (SV → Prop) → Prop, Fn1 A → (∀ H n K, sop C tm H n o K = A (fun v => K v H n)) → ∃ v, K v H n ∧ ∀ H' n' (K' : SV → Hp → Nat → Prop), K' v H' n' → sop C tm H' n' o K' := fun A hA he => by
    rw [he] at h
    obtain ⟨v, h1, h2⟩ := hA _ h
    exact ⟨v, h1, fun H' n' K' hk => by rw [he]; exact h2 _ hk⟩
  refine key (fun K => sop C tm H n o fun v _ _ => K v) ?_ ?_
  · cases o <;> first
      | (simp [MO.kind] at hk; done)
      | skip
    case nilck x =>
      simp only [sop]
      refine Fn1.ob fun a => ?_
      split <;> first
        | exact Fn1.val _
        | exact Fn1.no
    case ext x m =>
      simp only [sop]
      refine Fn1.ob fun a => ?_
      split <;> first
        | exact Fn1.no
        | exact Fn1.ob fun _ => Fn1.val _
    all_goals
      simp only [sop]
      repeat first
        | exact Fn1.val _
        | exact Fn1.sbin
        | exact Fn1.sbinB
        | exact Fn1.sbinA
        | exact Fn1.sbinP
        | exact Fn1.sun
        | exact Fn1.fldOf
        | refine Fn1.ob fun _ => ?_
        | refine Fn1.asI fun _ => ?_
        | refine Fn1.asB fun _ => ?_
        | refine Fn1.asS fun _ => ?_
        | refine Fn1.asP fun _ _ => ?_
        | refine Fn1.asSl fun _ _ _ _ => ?_
        | refine Fn1.bnd fun _ => ?_
        | refine Fn1.and ?_
  · intro H1 n1 K1
    cases o <;> first
      | (simp [MO.kind] at hk; done)
      | rfl
def stabO (tm : List (Nat × SV)) (H H' : Hp) : MO → Prop
  | .ld x | .ldn x _ | .slP x _ _ _ _ => ob (ev tm x) fun a => asP a fun i _ => H'.get i = H.get i
  | .b2s x | .slM x _ _ _ _ => ob (ev tm x) fun a => asSl a fun i _ _ _ => H'.get i = H.get i
  | .lenM x => ob (ev tm x) fun a => match a with
    | .mp i => H'.get i = H.get i
    | _ => True
  | .luM x _ _ _ => ob (ev tm x) fun a => match a with
    | .mp i => H'.get i = H.get i
    | _ => True
  | _ => True
theorem obH {α : Type} {x : Option α} {K : α → Prop} {x' : Option α} (e : x' = x) (h : ob x K) : ob x' K := e ▸ h
theorem read_fn {o : MO} (hk : o.kind = 1) (K : SV → Hp → Nat → Prop) (h : sop C tm H n o K) : ∃ v, K v H n ∧ ∀ H' n' (K' : SV → Hp → Nat → Prop), (stabO tm H H' o ∨ H' = H) → K' v H' n' → sop C tm H' n' o K' := by
  have fin : ∀ {A : Hp → (SV → Prop) → Prop} {v : SV}, K v H n → (∀ H', (stabO tm H H' o ∨ H' = H) → A H' = A H) → (∀ H n K, sop C tm H n o K = A H (fun v => K v H n)) → (∀ K' : SV → Prop, K' v → A H K') → ∃ v, K v H n ∧ ∀ H' n' (K' : SV → Hp → Nat → Prop), (stabO tm H H' o ∨ H' = H) → K' v H' n' → sop C tm H' n' o K' :=
    fun {A v} h1 h2 h3 h4 => ⟨v, h1, fun H' n' K' hs hk => by rw [h3, h2 H' hs]; exact h4 _ hk⟩
  cases o <;> first
    | (simp [MO.kind] at hk; done)
    | skip
  case ld x =>
    simp only [sop] at h ⊢
    obtain ⟨a, ha, h⟩ := ob_elim h
    cases a with
    | ptr i o =>
      obtain ⟨v, h1, h2⟩ := (Fn1.ob (x := H.get i) (fun s => Fn1.get (b := s.b) (o := o))) (fun c => K c H n) h
      refine ⟨v, h1, fun H' n' K' hs hk => ?_⟩
      rw [ha]
      show ob (H'.get i) _
      have e : H'.get i = H.get i := by
        rcases hs with hs | hs
        · simp only [stabO, ha] at hs; exact hs
        · rw [hs]
      rw [e]; exact h2 (fun c => K' c H' n') hk
    | _ => exact h.elim
  case ldn x m =>
    simp only [sop] at h ⊢
    obtain ⟨a, ha, h⟩ := ob_elim h
    cases a with
    | ptr i o =>
      obtain ⟨v, h1, h2⟩ := (Fn1.ob (x := H.get i) (fun s => Fn1.getN (b := s.b) (o := o) (m := m))) (fun c => K c H n) h
      refine ⟨v, h1, fun H' n' K' hs hk => ?_⟩
      rw [ha]
      show ob (H'.get i) _
      have e : H'.get i = H.get i := by
        rcases hs with hs | hs
        · simp only [stabO, ha] at hs; exact hs
        · rw [hs]
      rw [e]; exact h2 (fun c => K' c H' n') hk
    | _ => exact h.elim
  case slP x lo hi m z =>
    simp only [sop] at h ⊢
    obtain ⟨a, ha, h⟩ := ob_elim h
    cases a with
    | ptr i o =>
      obtain ⟨v, h1, h2⟩ := (Fn1.ob (x := H.get i) (fun s => Fn1.and (p := 0 < m * z) (Fn1.and (p := o + m * z ≤ s.b.cells.length) (Fn1.and (p := s.b.loose) (Fn1.bnd (tm := tm) (x := hi) (d := m) fun h => Fn1.bnd (tm := tm) (x := lo) (d := 0) fun l => Fn1.and (p := 0 ≤ l ∧ l ≤ h ∧ h ≤ m) (Fn1.val (.sl i (o + l.toNat * z) (h.toNat - l.toNat) z))))))) (fun c => K c H n) h
      refine ⟨v, h1, fun H' n' K' hs hk => ?_⟩
      rw [ha]
      show ob (H'.get i) _
      have e : H'.get i = H.get i := by
        rcases hs with hs | hs
        · simp only [stabO, ha] at hs; exact hs
        · rw [hs]
      rw [e]; exact h2 (fun c => K' c H' n') hk
    | _ => exact h.elim
  case slM x lo hi mx z =>
    simp only [sop] at h ⊢
    obtain ⟨a, ha, h⟩ := ob_elim h
    cases a with
    | sl i o m z' =>
      obtain ⟨v, h1, h2⟩ := (Fn1.and (p := z' = z) (Fn1.ob (x := ev tm mx) fun c => Fn1.asI (a := c) fun c => Fn1.ob (x := ev tm hi) fun h => Fn1.asI (a := h) fun h => Fn1.bnd (tm := tm) (x := lo) (d := 0) fun l => Fn1.and (p := 0 ≤ l ∧ l ≤ h ∧ h ≤ c ∧ c ≤ m) (Fn1.ob (x := H.get i) fun s => Fn1.and (p := s.b.loose) (Fn1.val (.sl i (o + l.toNat * z) (h.toNat - l.toNat) z))))) (fun c => K c H n) h
      refine ⟨v, h1, fun H' n' K' hs hk => ?_⟩
      rw [ha]
      have e : H'.get i = H.get i := by
        rcases hs with hs | hs
        · simp only [stabO, ha] at hs; exact hs
        · rw [hs]
      have := h2 (fun c => K' c H' n') hk
      rw [ob_some]
      unfold asSl
      simp only [e]
      exact this
    | _ => exact h.elim
  case b2s x =>
    simp only [sop] at h ⊢
    obtain ⟨a, ha, h⟩ := ob_elim h
    cases a with
    | sl i o m z =>
      obtain ⟨h0, h⟩ := h
      obtain ⟨v, h1, h2⟩ := (Fn1.rowOf (H := H) (i := i) (o := o) (m := m) (e := .ints .u8 []) (fun b => Fn1.asBy (a := b) fun ys => Fn1.val (.v (.string (tx ys))))) (fun c => K c H n) h
      refine ⟨v, h1, fun H' n' K' hs hk => ?_⟩
      rw [ha]
      refine ⟨h0, ?_⟩
      have e : H'.get i = H.get i := by
        rcases hs with hs | hs
        · simp only [stabO, ha] at hs; exact hs
        · rw [hs]
      have := h2 (fun c => K' c H' n') hk
      unfold rowOf at this ⊢
      rw [e]; exact this
    | _ => exact h.elim
  case lenM x =>
    simp only [sop] at h ⊢
    obtain ⟨a, ha, h⟩ := ob_elim h
    split at h
    · exact ⟨_, h, fun H' n' K' hs hk => by rw [ha]; exact hk⟩
    · rename_i i
      obtain ⟨v, h1, h2⟩ := (Fn1.ob (x := H.get i) (fun s => Fn1.asM (a := s.b) fun es => Fn1.val (.v (.int .i64 es.length)))) (fun c => K c H n) h
      refine ⟨v, h1, fun H' n' K' hs hk => ?_⟩
      rw [ha]
      show ob (H'.get i) _
      have e : H'.get i = H.get i := by
        rcases hs with hs | hs
        · simp only [stabO, ha] at hs; exact hs
        · rw [hs]
      rw [e]; exact h2 (fun c => K' c H' n') hk
    · exact h.elim
  case luM x k z ok =>
    simp only [sop] at h ⊢
    obtain ⟨a, ha, h⟩ := ob_elim h
    obtain ⟨b, hb, h⟩ := ob_elim h
    obtain ⟨s, rfl, h⟩ := asS_elim h
    rcases mpOf_elim h with ⟨i, so, es, rfl, hso, he, hks, hK⟩ | ⟨rfl, hks, hK⟩
    · refine ⟨_, hK, fun H' n' K' hs hk => ?_⟩
      rw [ha, hb]
      show ob (H'.get i) _
      have e : H'.get i = H.get i := by
        rcases hs with hs | hs
        · simp only [stabO, ha] at hs; exact hs
        · rw [hs]
      rw [e, hso, ob_some, he]
      exact ⟨hks, hk⟩
    · refine ⟨_, hK, fun H' n' K' hs hk => ?_⟩
      rw [ha, hb]
      exact ⟨hks, hk⟩
def V (C : Tab) (o : MOp) (tm : List (Nat × SV)) (H : Hp) (n : Nat) (K : List (Nat × SV) → Hp → Nat → Prop) : Prop := match o.g with
  | none => sop C tm H n o.op fun v H' n' => K (put tm o.d v) H' n'
  | some (t, want) => ob (lk tm t) fun g => gd g want (sop C tm H n o.op fun v H' n' => K (put tm o.d v) H' n') (K (put tm o.d (.v undef)) H n)
def stab (o : MOp) (tm : List (Nat × SV)) (H H' : Hp) : Prop := match o.g with
  | none => stabO tm H H' o.op
  | some (t, want) => ob (lk tm t) fun g => gd g want (stabO tm H H' o.op) True
theorem gd_mono {v : SV} {want : Bool} {T T' E E' : Prop} (h1 : T → T') (h2 : E → E') (h : gd v want T E) : gd v want T' E' := by
  unfold gd at h ⊢
  split at h
  · exact ⟨fun e => h1 (h.1 e), fun e => h2 (h.2 e)⟩
  · exact h2 h
  · exact h.elim
theorem V_mono {o : MOp} {K K' : List (Nat × SV) → Hp → Nat → Prop} (h : ∀ tm H n, K tm H n → K' tm H n) (hv : V C o tm H n K) : V C o tm H n K' := by
  unfold V at hv ⊢
  split at hv
  · exact sop_mono (fun v H n => h _ _ _) hv
  · exact ob_mono (fun g => gd_mono (sop_mono fun v H n => h _ _ _) (h _ _ _)) hv
theorem mem_uses {o : MO} {m : MA} (h : m ∈ o.args) {t : Nat} (ht : t ∈ m.uses) : t ∈ o.uses := List.mem_flatMap.2 ⟨m, h, ht⟩
theorem ev_agree {m : MA} (h : ∀ t ∈ m.uses, lk tm t = lk tm' t) : ev tm m = ev tm' m := by
  cases m with
  | t k => exact h k (by simp [MA.uses])
  | k c => rfl
theorem args_agree {o : MO} (h : ∀ t ∈ o.uses, lk tm t = lk tm' t) : ∀ m ∈ o.args, ev tm m = ev tm' m := fun m hm => ev_agree fun t ht => h t (mem_uses hm ht)
theorem V_congr {o : MOp} {K : List (Nat × SV) → Hp → Nat → Prop} (h : ∀ t ∈ o.uses, lk tm t = lk tm' t) (hv : V C o tm H n K) : V C o tm' H n (fun tm2 H2 n2 => ∃ v, tm2 = put tm' o.d v ∧ K (put tm o.d v) H2 n2) := by
  unfold V at hv ⊢
  have h1 : ∀ m ∈ o.op.args, ev tm m = ev tm' m := args_agree fun t ht => h t (List.mem_append_left _ ht)
  split at hv <;> rename_i e <;> simp only [e]
  · rw [sop_congr h1] at hv
    exact sop_mono (fun v H n hk => ⟨v, rfl, hk⟩) hv
  · rename_i t want
    rw [h t (List.mem_append_right _ (by simp [e]))] at hv
    refine ob_mono (fun g => gd_mono (fun hs => ?_) (fun hk => ⟨_, rfl, hk⟩)) hv
    rw [sop_congr h1] at hs
    exact sop_mono (fun v H n hk => ⟨v, rfl, hk⟩) hs
theorem stabO_congr {o : MO} (h : ∀ m ∈ o.args, ev tm m = ev tm' m) : stabO tm H H' o = stabO tm' H H' o := by
  cases o <;> first
    | rfl
    | (simp only [stabO]; rw [h _ (by simp [MO.args])])
theorem stab_congr {o : MOp} (h : ∀ t ∈ o.uses, lk tm t = lk tm' t) : stab o tm H H' = stab o tm' H H' := by
  unfold stab
  have h1 : ∀ m ∈ o.op.args, ev tm m = ev tm' m := args_agree fun t ht => h t (List.mem_append_left _ ht)
  split <;> rename_i e
  · exact stabO_congr h1
  · rename_i t want
    rw [h t (List.mem_append_right _ (by simp [e])), stabO_congr h1]
theorem V_fn {o : MOp} (hk : o.op.kind ≤ 1) {K : List (Nat × SV) → Hp → Nat → Prop} (hv : V C o tm H n K) :
    ∃ v, K (put tm o.d v) H n ∧ ∀ tm' H' n' (K' : List (Nat × SV) → Hp → Nat → Prop), (∀ t ∈ o.uses, lk tm t = lk tm' t) → (o.op.kind = 0 ∨ stab o tm H H' ∨ H' = H) → K' (put tm' o.d v) H' n' → V C o tm' H' n' K' := by
  have one : ∀ {K : SV → Hp → Nat → Prop}, sop C tm H n o.op K → ∃ v, K v H n ∧ ∀ tm' H' n' (K' : SV → Hp → Nat → Prop), (∀ t ∈ o.uses, lk tm t = lk tm' t) → (o.op.kind = 0 ∨ stabO tm H H' o.op ∨ H' = H) → K' v H' n' → sop C tm' H' n' o.op K' := fun {K} h => by
    by_cases h0 : o.op.kind = 0
    · obtain ⟨v, h1, h2⟩ := plain_fn h0 K h
      exact ⟨v, h1, fun tm' H' n' K' ht _ hk => by
        rw [← sop_congr (args_agree fun t h => ht t (List.mem_append_left _ h))]; exact h2 H' n' K' hk⟩
    · obtain ⟨v, h1, h2⟩ := read_fn (by omega) K h
      exact ⟨v, h1, fun tm' H' n' K' ht hs hk => by
        rw [← sop_congr (args_agree fun t h => ht t (List.mem_append_left _ h))]; exact h2 H' n' K' (hs.resolve_left h0) hk⟩
  unfold V at hv
  split at hv <;> rename_i e
  · obtain ⟨v, h1, h2⟩ := one hv
    refine ⟨v, h1, fun tm' H' n' K' ht hs hk => ?_⟩
    unfold V; simp only [e]
    refine h2 tm' H' n' _ ht ?_ hk
    unfold stab at hs; simp only [e] at hs; exact hs
  · rename_i t want
    obtain ⟨g, hg, hv⟩ := ob_elim hv
    have ht0 : ∀ tm' : List (Nat × SV), (∀ t ∈ o.uses, lk tm t = lk tm' t) → lk tm' t = some g := fun tm' ht => by
      rw [← ht t (List.mem_append_right _ (by simp [e]))]; exact hg
    unfold gd at hv
    split at hv
    · rename_i b
      by_cases hb : b = want
      · obtain ⟨v, h1, h2⟩ := one (hv.1 hb)
        refine ⟨v, h1, fun tm' H' n' K' ht hs hk => ?_⟩
        unfold V; simp only [e, ht0 tm' ht]
        refine ⟨fun _ => h2 tm' H' n' _ ht ?_ hk, fun hne => absurd hb hne⟩
        unfold stab at hs; simp only [e, hg] at hs
        rcases hs with hs | hs | hs
        · exact .inl hs
        · exact .inr (.inl (And.left hs hb))
        · exact .inr (.inr hs)
      · refine ⟨_, hv.2 hb, fun tm' H' n' K' ht hs hk => ?_⟩
        unfold V; simp only [e, ht0 tm' ht]
        exact ⟨fun hb' => absurd hb' hb, fun _ => hk⟩
    · refine ⟨_, hv, fun tm' H' n' K' ht hs hk => ?_⟩
      unfold V; simp only [e, ht0 tm' ht]
      exact hk
    · exact hv.elim
end Go.Sx

/- Regions whose order is drawn: all orders at once. -/
set_option linter.unusedVariables false
set_option linter.unusedSimpArgs false
namespace Go.Sx
variable {C : Tab} {tm tm' : List (Nat × SV)} {H H' : Hp} {n n' : Nat}
structure DOp where
  m : MOp
  pre : List Nat
def stabM (ms : List MOp) (tm : List (Nat × SV)) (H H' : Hp) : Prop := match ms with
  | [] => True
  | m :: r => stab m tm H H' ∧ stabM r tm H H'
theorem stabM_iff {ms : List MOp} : stabM ms tm H H' ↔ ∀ m ∈ ms, stab m tm H H' := by
  induction ms with
  | nil => simp [stabM]
  | cons m r ih => simp [stabM, ih]
def chkOf (I : List DOp) (Y : List Nat) (pre : List Nat) : List MOp := (Y.filter fun y => !pre.contains y).filterMap fun y => I[y]?.map (·.m)
theorem mem_chkOf {I : List DOp} {Y pre : List Nat} {m : MOp} : m ∈ chkOf I Y pre ↔ ∃ y o, y ∈ Y ∧ y ∉ pre ∧ I[y]? = some o ∧ o.m = m := by
  unfold chkOf
  simp only [List.mem_filterMap, List.mem_filter, Option.map_eq_some_iff]
  constructor
  · rintro ⟨y, ⟨h1, h2⟩, o, h3, h4⟩
    exact ⟨y, o, h1, by simpa using h2, h3, h4⟩
  · rintro ⟨y, o, h1, h2, h3, h4⟩
    exact ⟨y, ⟨h1, by simpa using h2⟩, o, h3, h4⟩
def vcL (C : Tab) (I : List DOp) (Y : List Nat) : List Nat → List (Nat × SV) → Hp → Nat → (List (Nat × SV) → Hp → Nat → Prop) → Prop
  | [], tm, H, n, K => K tm H n
  | i :: r, tm, H, n, K => ∃ o, I[i]? = some o ∧ V C o.m tm H n fun tm' H' n' => (o.m.op.kind = 2 → stabM (chkOf I Y o.pre) tm H H') ∧ vcL C I Y r tm' H' n' K
theorem vcL_mono {I : List DOp} {Y Y' : List Nat} {K K' : List (Nat × SV) → Hp → Nat → Prop} (hY : ∀ y ∈ Y', y ∈ Y) (h : ∀ tm H n, K tm H n → K' tm H n) : ∀ {L : List Nat} {tm : List (Nat × SV)} {H : Hp} {n : Nat}, vcL C I Y L tm H n K → vcL C I Y' L tm H n K'
  | [], tm, H, n, hv => h _ _ _ hv
  | i :: r, tm, H, n, hv => by
    obtain ⟨o, ho, hv⟩ := hv
    refine ⟨o, ho, V_mono (fun tm' H' n' hk => ⟨fun h2 => ?_, vcL_mono hY h hk.2⟩) hv⟩
    have := hk.1 h2
    rw [stabM_iff] at this ⊢
    intro m hm
    obtain ⟨y, o', q1, q2, q3, q4⟩ := mem_chkOf.1 hm
    exact this m (mem_chkOf.2 ⟨y, o', hY y q1, q2, q3, q4⟩)
def TEq (tm tm' : List (Nat × SV)) : Prop := ∀ t, lk tm t = lk tm' t
theorem lk_tput {d : Option Nat} {v : SV} {t : Nat} : lk (put tm d v) t = if d = some t then some v else lk tm t := by
  cases d with
  | none => simp [put]
  | some d => simp only [put, lk, Option.some.injEq]
theorem TEq.put {d : Option Nat} {v : SV} (h : TEq tm tm') : TEq (put tm d v) (put tm' d v) := fun t => by rw [lk_tput, lk_tput, h t]
theorem kind_le (o : MO) : o.kind ≤ 2 := by cases o <;> simp [MO.kind]
theorem V_teq {o : MOp} {K : List (Nat × SV) → Hp → Nat → Prop} (h : TEq tm tm') (hv : V C o tm H n K) : V C o tm' H n (fun t2 H2 n2 => ∃ t1, TEq t1 t2 ∧ K t1 H2 n2) :=
  V_mono (fun t2 H2 n2 ⟨v, e, hk⟩ => ⟨_, by rw [e]; exact h.put, hk⟩) (V_congr (fun t _ => h t) hv)
theorem stab_teq {o : MOp} (h : TEq tm tm') : stab o tm H H' = stab o tm' H H' := stab_congr fun t _ => h t
theorem vcL_teq {I : List DOp} {Y : List Nat} {K : List (Nat × SV) → Hp → Nat → Prop} (hK : ∀ t1 t2 H n, TEq t1 t2 → K t1 H n → K t2 H n) : ∀ {L : List Nat} {tm tm' : List (Nat × SV)} {H : Hp} {n : Nat}, TEq tm tm' → vcL C I Y L tm H n K → vcL C I Y L tm' H n K
  | [], tm, tm', H, n, h, hv => hK _ _ _ _ h hv
  | i :: r, tm, tm', H, n, h, hv => by
    obtain ⟨o, ho, hv⟩ := hv
    refine ⟨o, ho, V_mono (fun t2 H2 n2 ⟨t1, ht, hk⟩ => ⟨fun h2 => ?_, vcL_teq hK ht hk.2⟩) (V_teq h hv)⟩
    have := hk.1 h2
    rw [stabM_iff] at this ⊢
    intro m hm
    rw [← stab_teq h]; exact this m hm
def apart (x y : MOp) : Prop := (∀ d, x.d = some d → d ∉ y.uses ∧ y.d ≠ some d) ∧ ∀ d, y.d = some d → d ∉ x.uses
theorem lk_tput_ne {d : Option Nat} {v : SV} {t : Nat} (h : d ≠ some t) : lk (put tm d v) t = lk tm t := by rw [lk_tput, if_neg h]
theorem swap {x y : MOp} {R : Hp → Prop} {K : List (Nat × SV) → Hp → Nat → Prop} (hy : y.op.kind ≤ 1) (hap : apart x y) (hself : y.op.kind = 1 → ∀ d, y.d = some d → d ∉ y.uses)
    (h : V C y tm H n fun tm1 H1 n1 => V C x tm1 H1 n1 fun tm2 H2 n2 => ((x.op.kind = 2 ∧ y.op.kind = 1 → stab y tm1 H1 H2) ∧ R H2) ∧ K tm2 H2 n2) :
    V C x tm H n fun tm2 H2 n2 => R H2 ∧ V C y tm2 H2 n2 fun tm3 H3 n3 => ∃ t, TEq t tm3 ∧ K t H3 n3 := by
  obtain ⟨u, hx, hu⟩ := V_fn hy h
  have hxu : ∀ t ∈ x.uses, lk (put tm y.d u) t = lk tm t := fun t ht => lk_tput_ne fun e => hap.2 t e ht
  have hyu : ∀ v, ∀ t ∈ y.uses, lk tm t = lk (put tm x.d v) t := fun v t ht => (lk_tput_ne fun e => (hap.1 t e).1 ht).symm
  have hcomm : ∀ v, TEq (put (put tm y.d u) x.d v) (put (put tm x.d v) y.d u) := fun v t => by
    simp only [lk_tput]
    by_cases e1 : x.d = some t <;> by_cases e2 : y.d = some t <;> simp only [e1, e2, if_true, if_false] <;> try rfl
    exact absurd e2 (hap.1 t e1).2
  by_cases hx2 : x.op.kind = 2
  · refine V_mono (fun tm2 H2 n2 ⟨v, e, ⟨hs, hr⟩, hk⟩ => ⟨hr, ?_⟩) (V_congr hxu hx)
    subst e
    refine hu _ H2 n2 _ (hyu v) ?_ ⟨_, hcomm v, hk⟩
    by_cases h1 : y.op.kind = 1
    · have := hs ⟨hx2, h1⟩
      rw [stab_congr (fun t ht => lk_tput_ne fun e => hself h1 t e ht)] at this
      exact .inr (.inl this)
    · exact .inl (by omega)
  · have hx1 : x.op.kind ≤ 1 := by have := kind_le x.op; omega
    obtain ⟨v, ⟨⟨hs, hr⟩, hk⟩, hv⟩ := V_fn hx1 hx
    refine hv tm H n _ hxu (.inr (.inr rfl)) ⟨hr, ?_⟩
    exact hu _ H n _ (hyu v) (.inr (.inr rfl)) ⟨_, hcomm v, hk⟩
theorem move {I : List DOp} {Y : List Nat} {y : Nat} {oy : DOp} {K : List (Nat × SV) → Hp → Nat → Prop} (hK : ∀ t1 t2 H n, TEq t1 t2 → K t1 H n → K t2 H n)
    (hoy : I[y]? = some oy) (hy : oy.m.op.kind ≤ 1) (hself : oy.m.op.kind = 1 → ∀ d, oy.m.d = some d → d ∉ oy.m.uses) (hY : ∀ z ∈ Y, ∀ oz, I[z]? = some oz → ∀ d, oy.m.d = some d → d ∉ oz.m.uses) {Y' : List Nat} (hY1 : ∀ z ∈ Y, z ∈ Y') (hY2 : oy.m.op.kind = 1 → y ∈ Y') :
    ∀ {A B : List Nat} {tm : List (Nat × SV)} {H : Hp} {n : Nat}, (∀ a ∈ A, ∀ oa, I[a]? = some oa → apart oa.m oy.m ∧ y ∉ oa.pre) →
      V C oy.m tm H n (fun tm1 H1 n1 => vcL C I Y' (A ++ B) tm1 H1 n1 K) → vcL C I Y (A ++ y :: B) tm H n K
  | [], B, tm, H, n, hA, h => by
    refine ⟨oy, hoy, V_mono (fun tm1 H1 n1 hk => ⟨fun h2 => ?_, vcL_mono hY1 (fun _ _ _ h => h) hk⟩) h⟩
    omega
  | a :: A, B, tm, H, n, hA, h => by
    obtain ⟨u, ⟨oa, hoa, _⟩, _⟩ := V_fn hy h
    have ha := hA a (List.mem_cons_self ..) oa hoa
    have h1 : V C oy.m tm H n fun tm1 H1 n1 => V C oa.m tm1 H1 n1 fun tm2 H2 n2 => ((oa.m.op.kind = 2 ∧ oy.m.op.kind = 1 → stab oy.m tm1 H1 H2) ∧ (oa.m.op.kind = 2 → stabM (chkOf I Y oa.pre) tm H H2)) ∧ vcL C I Y' (A ++ B) tm2 H2 n2 K := by
      obtain ⟨u, ⟨oa', hoa', hk⟩, hu⟩ := V_fn hy h
      rw [hoa] at hoa'; cases hoa'
      refine hu tm H n _ (fun _ _ => rfl) (.inr (.inr rfl)) (V_mono (fun tm2 H2 n2 hk => ⟨⟨fun hh => ?_, fun h2 => ?_⟩, hk.2⟩) hk)
      · have := hk.1 hh.1
        rw [stabM_iff] at this
        exact this _ (mem_chkOf.2 ⟨y, oy, hY2 hh.2, ha.2, hoy, rfl⟩)
      · have := hk.1 h2
        rw [stabM_iff] at this ⊢
        intro m hm
        obtain ⟨z, oz, q1, q2, q3, q4⟩ := mem_chkOf.1 hm
        have := this m (mem_chkOf.2 ⟨z, oz, hY1 z q1, q2, q3, q4⟩)
        subst q4
        rwa [stab_congr (fun t ht => lk_tput_ne fun e => hY z q1 oz q3 t e ht)] at this
    have h2 := swap (R := fun H2 => oa.m.op.kind = 2 → stabM (chkOf I Y oa.pre) tm H H2) hy ha.1 hself h1
    refine ⟨oa, hoa, V_mono (fun tm2 H2 n2 hk => ⟨hk.1, ?_⟩) h2⟩
    refine move hK hoy hy hself hY hY1 hY2 (fun b hb => hA b (List.mem_cons_of_mem _ hb)) ?_
    exact V_mono (fun tm3 H3 n3 ⟨t, ht, hk⟩ => vcL_teq hK ht hk) hk.2
end Go.Sx

/- Regions whose order is drawn: the tree of orders. -/
set_option linter.unusedVariables false
set_option linter.unusedSimpArgs false
namespace Go.Sx
variable {P : Program} {F : Nat → Prop} {w0 w : World} {ρ : Nat → Loc} {a : Act}
variable {C : Tab} {tm tm' : List (Nat × SV)} {H H' : Hp} {n n' : Nat}
def vcT (C : Tab) : DT → List (Nat × SV) → Hp → Nat → (List (Nat × SV) → Hp → Nat → Prop) → Prop
  | .fin, tm, H, n, K => K tm H n
  | .stop, _, _, _, _ => True
  | .pure o r, tm, H, n, K => V C o tm H n fun tm' H' n' => vcT C r tm' H' n' K
  | .act o chk r os, tm, H, n, K => (V C o tm H n fun tm' H' n' => stabM chk tm H H' ∧ vcT C r tm' H' n' K) ∧ vcT C os tm H n K
theorem vcT_mono {K K' : List (Nat × SV) → Hp → Nat → Prop} (h : ∀ tm H n, K tm H n → K' tm H n) : ∀ {T : DT} {tm : List (Nat × SV)} {H : Hp} {n : Nat}, vcT C T tm H n K → vcT C T tm H n K'
  | .fin, tm, H, n, hv => h _ _ _ hv
  | .stop, tm, H, n, hv => trivial
  | .pure o r, tm, H, n, hv => V_mono (fun _ _ _ => vcT_mono h) hv
  | .act o chk r os, tm, H, n, hv => ⟨V_mono (fun _ _ _ hk => ⟨hk.1, vcT_mono h hk.2⟩) hv.1, vcT_mono h hv.2⟩
def isReady (I : List DOp) (D : List Nat) (i : Nat) : Bool := !D.contains i && (match I[i]? with
  | some o => o.pre.all D.contains
  | none => false)
def allDone (I : List DOp) (D : List Nat) : Bool := (List.range I.length).all D.contains
def kindOf (I : List DOp) (i : Nat) : Nat := match I[i]? with
  | some o => o.m.op.kind
  | none => 2
def mkT (I : List DOp) : Nat → List Nat → List Nat → Option DT
  | 0, D, Y => if allDone I D then some .fin else none
  | f + 1, D, Y => match ((List.range I.length).filter (isReady I D)).find? fun i => decide (kindOf I i ≤ 1) with
    | some i => match I[i]? with
      | some o => (mkT I f (i :: D) (if o.m.op.kind = 1 then i :: Y else Y)).map (.pure o.m)
      | none => none
    | none => if allDone I D then some .fin else if ((List.range I.length).filter (isReady I D)).isEmpty then none else
      ((List.range I.length).filter (isReady I D)).foldr (fun i acc => match I[i]?, mkT I f (i :: D) Y, acc with
        | some o, some r, some os => some (.act o.m (chkOf I Y o.pre) r os)
        | _, _, _ => none) (some .stop)
def apartOps (x y : MOp) : Bool := (match x.d with
  | some d => !y.uses.contains d && y.d != some d
  | none => true) && (match y.d with
  | some d => !x.uses.contains d
  | none => true)
theorem apartOps_spec {x y : MOp} (h : apartOps x y = true) : apart x y := by
  unfold apartOps at h
  simp only [Bool.and_eq_true] at h
  refine ⟨fun d hd => ?_, fun d hd => ?_⟩
  · have := h.1; rw [hd] at this; simp at this; exact ⟨this.1, this.2⟩
  · have := h.2; rw [hd] at this; simpa using this
def okPair (I : List DOp) (j : Nat) (z : DOp) (i : Nat) (y : DOp) : Bool :=
  (j == i || decide (2 ≤ y.m.op.kind) || y.pre.contains j || z.pre.contains i || apartOps z.m y.m) &&
  (decide (y.m.op.kind ≠ 1) || y.pre.contains j || (match z.m.d with
    | some d => !y.m.uses.contains d
    | none => true))
def okI (I : List DOp) : Bool := (List.range I.length).all fun i => (List.range I.length).all fun j => match I[i]?, I[j]? with
  | some y, some z => okPair I j z i y
  | _, _ => true
theorem okI_spec {I : List DOp} (h : okI I = true) {i j : Nat} {y z : DOp} (hi : I[i]? = some y) (hj : I[j]? = some z) : okPair I j z i y = true := by
  unfold okI at h
  have h1 := List.all_eq_true.1 h i (List.mem_range.2 (List.getElem?_eq_some_iff.1 hi).1)
  have h2 := List.all_eq_true.1 h1 j (List.mem_range.2 (List.getElem?_eq_some_iff.1 hj).1)
  rw [hi, hj] at h2
  exact h2
def Lin (I : List DOp) : List Nat → List Nat → Prop
  | D, [] => ∀ i, isReady I D i = false
  | D, i :: L => isReady I D i = true ∧ Lin I (i :: D) L
theorem isReady_spec {I : List DOp} {D : List Nat} {i : Nat} : isReady I D i = true ↔ i ∉ D ∧ ∃ o, I[i]? = some o ∧ ∀ p ∈ o.pre, p ∈ D := by
  unfold isReady
  cases I[i]? with
  | none => simp
  | some o => simp [List.all_eq_true]
theorem isReady_congr {I : List DOp} {D D' : List Nat} (h : ∀ i, i ∈ D ↔ i ∈ D') (i : Nat) : isReady I D i = isReady I D' i := by
  rw [Bool.eq_iff_iff, isReady_spec, isReady_spec, h i]
  simp only [h]
theorem Lin_congr {I : List DOp} : ∀ {L D D' : List Nat}, (∀ i, i ∈ D ↔ i ∈ D') → Lin I D L → Lin I D' L
  | [], D, D', h, hl => fun i => by rw [← isReady_congr h]; exact hl i
  | i :: L, D, D', h, hl => ⟨by rw [← isReady_congr h]; exact hl.1, Lin_congr (fun j => by simp [h j]) hl.2⟩
theorem Lin_extract {I : List DOp} {y : Nat} : ∀ {L D : List Nat}, Lin I D L → isReady I D y = true → ∃ A B, L = A ++ y :: B ∧ (∀ x ∈ A, x ≠ y ∧ x ∉ D ∧ ∀ ox, I[x]? = some ox → y ∉ ox.pre) ∧ Lin I (y :: D) (A ++ B)
  | [], D, hl, hy => by rw [hl y] at hy; cases hy
  | x :: L, D, hl, hy => by
    by_cases e : x = y
    · subst e
      exact ⟨[], L, rfl, by simp, hl.2⟩
    · obtain ⟨hx1, ox, hx2, hx3⟩ := isReady_spec.1 hl.1
      obtain ⟨hy1, oy, hy2, hy3⟩ := isReady_spec.1 hy
      have hy' : isReady I (x :: D) y = true := isReady_spec.2 ⟨by simp [hy1]; exact fun h => e h.symm, oy, hy2, fun p hp => List.mem_cons_of_mem _ (hy3 p hp)⟩
      obtain ⟨A, B, h1, h2, h3⟩ := Lin_extract hl.2 hy'
      refine ⟨x :: A, B, by rw [h1]; rfl, fun z hz => ?_, ⟨isReady_spec.2 ⟨by simp [hx1, e], ox, hx2, fun p hp => List.mem_cons_of_mem _ (hx3 p hp)⟩, Lin_congr (fun i => by simp only [List.mem_cons]; exact or_left_comm) h3⟩⟩
      rcases List.mem_cons.1 hz with e2 | hz
      · subst e2
        exact ⟨e, hx1, fun oz hoz hp => by rw [hx2] at hoz; cases hoz; exact hy1 (hx3 y hp)⟩
      · obtain ⟨q1, q2, q3⟩ := h2 z hz
        exact ⟨q1, fun hd => q2 (List.mem_cons_of_mem _ hd), q3⟩
theorem allDone_spec {I : List DOp} {D : List Nat} (h : allDone I D = true) {i : Nat} (hi : isReady I D i = true) : False := by
  obtain ⟨h1, o, h2, _⟩ := isReady_spec.1 hi
  have := List.all_eq_true.1 h i (List.mem_range.2 (List.getElem?_eq_some_iff.1 h2).1)
  exact h1 (by simpa using this)
theorem mem_ready {I : List DOp} {D : List Nat} {i : Nat} : i ∈ (List.range I.length).filter (isReady I D) ↔ isReady I D i = true := by
  simp only [List.mem_filter, List.mem_range]
  refine ⟨fun h => h.2, fun h => ⟨?_, h⟩⟩
  obtain ⟨h1, o, h2, _⟩ := isReady_spec.1 h
  exact (List.getElem?_eq_some_iff.1 h2).1
theorem acts_spec {I : List DOp} {f : Nat} {D Y : List Nat} {K : List (Nat × SV) → Hp → Nat → Prop} : ∀ {l : List Nat} {T : DT}, l.foldr (fun i acc => match I[i]?, mkT I f (i :: D) Y, acc with
        | some o, some r, some os => some (.act o.m (chkOf I Y o.pre) r os)
        | _, _, _ => none) (some .stop) = some T → vcT C T tm H n K → ∀ i ∈ l, ∃ o r, I[i]? = some o ∧ mkT I f (i :: D) Y = some r ∧ V C o.m tm H n fun tm' H' n' => stabM (chkOf I Y o.pre) tm H H' ∧ vcT C r tm' H' n' K
  | [], T, ht, hv, i, hi => by cases hi
  | j :: l, T, ht, hv, i, hi => by
    simp only [List.foldr_cons] at ht
    split at ht
    · rename_i o r os h1 h2 h3
      cases ht
      rcases List.mem_cons.1 hi with e | hi
      · subst e; exact ⟨o, r, h1, h2, hv.1⟩
      · exact acts_spec h3 hv.2 i hi
    · cases ht
theorem tree_sound {I : List DOp} {K : List (Nat × SV) → Hp → Nat → Prop} (hI : okI I = true) (hK : ∀ t1 t2 H n, TEq t1 t2 → K t1 H n → K t2 H n) :
    ∀ (f : Nat) (D Y : List Nat) (T : DT) (L : List Nat) (tm : List (Nat × SV)) (H : Hp) (n : Nat), mkT I f D Y = some T → (∀ y ∈ Y, ∃ oy, I[y]? = some oy ∧ oy.m.op.kind = 1 ∧ ∀ p ∈ oy.pre, p ∈ D) → Lin I D L → vcT C T tm H n K → vcL C I Y L tm H n K
  | 0, D, Y, T, L, tm, H, n, ht, hY, hl, hv => by
    simp only [mkT] at ht
    split at ht
    · rename_i hd; cases ht
      cases L with
      | nil => exact hv
      | cons i L => exact (allDone_spec hd hl.1).elim
    · cases ht
  | f + 1, D, Y, T, L, tm, H, n, ht, hY, hl, hv => by
    simp only [mkT] at ht
    split at ht
    · rename_i y hy
      have hy1 := List.mem_of_find?_eq_some hy
      have hy2 := List.find?_some hy
      have hyr := mem_ready.1 hy1
      obtain ⟨hyD, oy, hoy, hpre⟩ := isReady_spec.1 hyr
      rw [hoy] at ht
      simp only [Option.map_eq_some_iff] at ht
      obtain ⟨T', hT', rfl⟩ := ht
      have hk : oy.m.op.kind ≤ 1 := by simpa [kindOf, hoy] using hy2
      obtain ⟨A, B, e, hA, hl'⟩ := Lin_extract hl hyr
      subst e
      have rd : ∀ (z : Nat) (oz : DOp), I[z]? = some oz → oz.m.op.kind = 1 → (∀ p ∈ oz.pre, p ∈ D) → ∀ d, oy.m.d = some d → d ∉ oz.m.uses := fun z oz hz h1 hp d hd hu => by
        have := okI_spec hI hz hoy
        simp only [okPair, Bool.and_eq_true, Bool.or_eq_true, decide_eq_true_eq] at this
        rcases this.2 with (h | h) | h
        · exact h h1
        · exact hyD (hp y (by simpa using h))
        · rw [hd] at h; simp at h; exact h hu
      refine move hK hoy hk (fun h1 => rd y oy hoy h1 hpre) (fun z hz oz hoz => ?_) (Y' := if oy.m.op.kind = 1 then y :: Y else Y) (fun z hz => by split <;> simp [hz]) (fun h1 => by simp [h1]) (fun x hx ox hox => ?_) ?_
      · obtain ⟨oz', q1, q2, q3⟩ := hY z hz
        rw [hoz] at q1; cases q1
        exact rd z oz hoz q2 q3
      · obtain ⟨q1, q2, q3⟩ := hA x hx
        refine ⟨?_, q3 ox hox⟩
        have := okI_spec hI hoy hox
        simp only [okPair, Bool.and_eq_true, Bool.or_eq_true, decide_eq_true_eq] at this
        rcases this.1 with (((h | h) | h) | h) | h
        · exact absurd (by simpa using h) q1
        · omega
        · exact absurd (hpre x (by simpa using h)) q2
        · exact absurd (by simpa using h) (q3 ox hox)
        · exact apartOps_spec h
      · refine V_mono (fun tm1 H1 n1 hk1 => tree_sound hI hK f _ _ T' (A ++ B) tm1 H1 n1 hT' (fun z hz => ?_) hl' hk1) hv
        split at hz
        · rename_i h1
          rcases List.mem_cons.1 hz with e | hz
          · subst e; exact ⟨oy, hoy, h1, fun p hp => List.mem_cons_of_mem _ (hpre p hp)⟩
          · obtain ⟨oz, q1, q2, q3⟩ := hY z hz
            exact ⟨oz, q1, q2, fun p hp => List.mem_cons_of_mem _ (q3 p hp)⟩
        · obtain ⟨oz, q1, q2, q3⟩ := hY z hz
          exact ⟨oz, q1, q2, fun p hp => List.mem_cons_of_mem _ (q3 p hp)⟩
    · rename_i hno
      split at ht
      · rename_i hd; cases ht
        cases L with
        | nil => exact hv
        | cons i L => exact (allDone_spec hd hl.1).elim
      · split at ht
        · cases ht
        · rename_i hne
          cases L with
          | nil =>
            exfalso
            apply hne
            rw [List.isEmpty_iff, List.filter_eq_nil_iff]
            intro i hi; rw [hl i]; simp
          | cons i L =>
            obtain ⟨o, r, h1, h2, h3⟩ := acts_spec ht hv i (mem_ready.2 hl.1)
            refine ⟨o, h1, V_mono (fun tm' H' n' hk => ⟨fun _ => hk.1, tree_sound hI hK f _ _ r L tm' H' n' h2 (fun z hz => ?_) hl.2 hk.2⟩) h3⟩
            obtain ⟨oz, q1, q2, q3⟩ := hY z hz
            exact ⟨oz, q1, q2, fun p hp => List.mem_cons_of_mem _ (q3 p hp)⟩
end Go.Sx

/- Regions whose order is drawn, as the machine has them. -/
set_option linter.unusedVariables false
set_option linter.unusedSimpArgs false
namespace Go.Sx
variable {P : Program} {F : Nat → Prop} {w0 w : World} {ρ : Nat → Loc} {a : Act} {ds : List Deferred}
variable {C : Tab} {tm tm' : List (Nat × SV)} {H H' : Hp} {n n' : Nat}
def preOf (o : Oper) : List Nat := o.after.toList.filterMap fun e => if Region.binds .any e then some e.on else none
def trD (P : Program) (N : Nat) (ops : Array Oper) : List Oper → Option (List DOp)
  | [] => some []
  | o :: r => match trG P N ops o, trD P N ops r with
    | some m, some l => some (⟨m, preOf o⟩ :: l)
    | _, _ => none
theorem trD_get {N : Nat} {ops : Array Oper} : ∀ {l : List Oper} {I : List DOp}, trD P N ops l = some I → l.length = I.length ∧ ∀ (i : Nat) (d : DOp), I[i]? = some d → ∃ o, l[i]? = some o ∧ trG P N ops o = some d.m ∧ d.pre = preOf o
  | [], I, h => by cases h; exact ⟨rfl, fun i d hd => by simp at hd⟩
  | o :: r, I, h => by
    simp only [trD] at h
    split at h
    · rename_i m l h1 h2
      cases h
      obtain ⟨q1, q2⟩ := trD_get h2
      refine ⟨by simp [q1], fun i d hd => ?_⟩
      cases i with
      | zero => simp at hd; subst hd; exact ⟨o, rfl, h1, rfl⟩
      | succ i => exact q2 i d (by simpa using hd)
    · cases h
def left (N : Nat) (D : List Nat) : Nat := ((List.range N).filter fun i => !D.contains i).length
theorem left_lt {N i : Nat} {D : List Nat} (h1 : i < N) (h2 : i ∉ D) : left N (i :: D) < left N D := by
  unfold left
  have e : (List.range N).filter (fun j => !(i :: D).contains j) = ((List.range N).filter fun j => !D.contains j).filter fun j => j != i := by
    rw [List.filter_filter]
    refine List.filter_congr fun x _ => ?_
    by_cases hx : x = i <;> simp [hx, List.contains_cons]
  rw [e, List.length_filter_lt_length_iff_exists]
  exact ⟨i, by simp [h1, h2], by simp⟩
theorem left_zero {N i : Nat} {D : List Nat} (h : left N D = 0) (hi : i < N) : i ∈ D := by
  unfold left at h
  have := List.filter_eq_nil_iff.1 (List.eq_nil_of_length_eq_zero h) i (List.mem_range.2 hi)
  simpa using this
theorem go_lin {ops : Array Oper} {I : List DOp} (hlen : I.length = ops.size) (hI : ∀ (i : Nat) (d : DOp), I[i]? = some d → ∃ o, ops[i]? = some o ∧ d.pre = preOf o) :
    ∀ (fuel t : Nat) (listed : Array Bool) (D : List Nat), listed.size = ops.size → (∀ i, listed.getD i false = D.contains i) → left ops.size D ≤ fuel →
      Lin I D (Region.linearise.go .any ops fuel t listed []) := by
  have hrd : ∀ (listed : Array Bool) (D : List Nat), listed.size = ops.size → (∀ i, listed.getD i false = D.contains i) → ∀ i, i ∈ Region.ready .any ops listed ↔ isReady I D i = true := by
    intro listed D hs hD i
    rw [isReady_spec]
    unfold Region.ready
    simp only [List.mem_filter, List.mem_range, Bool.and_eq_true, Bool.not_eq_true']
    have hg : i < ops.size → listed.getD i true = D.contains i := fun hi => by
      rw [← hD i]; simp [Array.getD, hs, hi]
    constructor
    · rintro ⟨hi, h1, h2⟩
      rw [hg hi] at h1
      have hlt : i < I.length := by omega
      obtain ⟨o, ho, hp⟩ := hI i I[i] (List.getElem?_eq_getElem hlt)
      refine ⟨by simpa using h1, I[i], List.getElem?_eq_getElem hlt, fun p hp' => ?_⟩
      rw [ho] at h2
      simp only [Option.map_some, Option.getD_some, Array.all_eq_true_iff_forall_mem] at h2
      rw [hp] at hp'
      unfold preOf at hp'
      obtain ⟨e, he1, he2⟩ := List.mem_filterMap.1 hp'
      have h3 := h2 e (by simpa using he1)
      split at he2
      · rename_i hb; cases he2
        rw [hb, hD] at h3
        simpa using h3
      · cases he2
    · rintro ⟨h1, d, hd, h2⟩
      obtain ⟨o, ho, hp⟩ := hI i d hd
      have hi : i < ops.size := by rw [← hlen]; exact (List.getElem?_eq_some_iff.1 hd).1
      refine ⟨hi, by rw [hg hi]; simpa using h1, ?_⟩
      rw [ho]
      simp only [Option.map_some, Option.getD_some, Array.all_eq_true_iff_forall_mem]
      intro e he
      by_cases hb : Region.binds .any e = true
      · rw [hb, hD]
        have := h2 e.on (by rw [hp]; exact List.mem_filterMap.2 ⟨e, by simpa using he, by rw [if_pos hb]⟩)
        simpa using this
      · simp only [Bool.not_eq_true] at hb; rw [hb]; rfl
  intro fuel
  induction fuel with
  | zero =>
    intro t listed D hs hD hl
    simp only [Region.linearise.go, List.reverse_nil]
    intro i
    by_cases h : isReady I D i = true
    · exfalso
      obtain ⟨h1, d, hd, _⟩ := isReady_spec.1 h
      exact h1 (left_zero (Nat.le_zero.1 hl) (by rw [← hlen]; exact (List.getElem?_eq_some_iff.1 hd).1))
    · simpa using h
  | succ fuel ih =>
    intro t listed D hs hD hl
    simp only [Region.linearise.go]
    change Lin I D (match (Region.ready .any ops listed)[t % (Region.ready .any ops listed).length]? with
      | some i => Region.linearise.go .any ops fuel (t / (Region.ready .any ops listed).length) (listed.setIfInBounds i true) [i]
      | none => [].reverse)
    cases hi : (Region.ready .any ops listed)[t % (Region.ready .any ops listed).length]? with
    | none =>
      have hnil : Region.ready .any ops listed = [] := by
        cases hr : Region.ready .any ops listed with
        | nil => rfl
        | cons x xs =>
          rw [hr] at hi
          have hlt : t % (x :: xs).length < (x :: xs).length := Nat.mod_lt _ (by simp)
          simp at hi
          simp at hlt
          omega
      intro i
      by_cases h : isReady I D i = true
      · have := (hrd listed D hs hD i).2 h
        rw [hnil] at this; cases this
      · simpa using h
    | some i =>
      simp only []
      rw [linearise_go_acc, List.reverse_singleton, List.singleton_append]
      have hr := (hrd listed D hs hD i).1 (List.mem_of_getElem? hi)
      obtain ⟨h1, d, hd, _⟩ := isReady_spec.1 hr
      have hlt : i < ops.size := by rw [← hlen]; exact (List.getElem?_eq_some_iff.1 hd).1
      refine ⟨hr, ih _ _ _ (by simp [hs]) (fun j => ?_) ?_⟩
      · have := hD j
        by_cases e : j = i
        · subst e; simp [Array.getD, hs, hlt]
        · simp only [List.contains_cons]
          rw [← this]
          have e1 : (j == i) = false := by simpa using e
          rw [e1, Bool.false_or]
          simp only [Array.getD_eq_getD_getElem?, Array.getElem?_setIfInBounds_ne (Ne.symm e)]
      · have := left_lt (D := D) hlt h1; omega
theorem vcL_sound {r : Option Nat} {N : Nat} {ops : Array Oper} {I : List DOp} {Q : Exit → Act → World → Prop} (hC : TabOK P C) (hE : Enters P C) (hI : ∀ (i : Nat) (d : DOp), I[i]? = some d → ∃ o, ops.toList[i]? = some o ∧ trG P N ops o = some d.m) (Y : List Nat) :
    ∀ (L : List Nat) (tm : List (Nat × SV)) (H : Hp) (n : Nat) (ρ : Nat → Loc) (a : Act) (w : World) (K : List (Nat × SV) → Hp → Nat → Prop),
      HRel F w0 ρ n H w → ARel ds ρ N n tm a → vcL C I Y L tm H n K →
      (∀ tm' H' n' ρ' a' w', K tm' H' n' → HRel F w0 ρ' n' H' w' → ARel ds ρ' N n' tm' a' → Ext n ρ ρ' → n ≤ n' → Q .normal a' w') →
      wpOpsIn (FW r) 0 P ops Q L a w
  | [], tm, H, n, ρ, a, w, K, hH, hA, h, hK => hK tm H n ρ a w h hH hA (Ext.refl _ _) (Nat.le_refl _)
  | i :: L, tm, H, n, ρ, a, w, K, hH, hA, h, hK => by
    obtain ⟨d, hd, h⟩ := h
    obtain ⟨o, ho, hm⟩ := hI i d hd
    rw [wpOpsIn_cons]
    have hdst := trG_dst hm
    refine wpOp_sound hC hE (by simpa using ho) hm hH hA (fun v H' n' => (d.m.op.kind = 2 → stabM (chkOf I Y d.pre) tm H H') ∧ vcL C I Y L (put tm d.m.d v) H' n' K) ((d.m.op.kind = 2 → stabM (chkOf I Y d.pre) tm H H) ∧ vcL C I Y L (put tm d.m.d (.v undef)) H n K) ?_ ?_ ?_
    · unfold V at h; exact h
    · intro v H' n' ρ' x w' hk hH' hx hn hr hlt
      rw [hdst.1] at hk
      exact vcL_sound hC hE hI Y L _ H' n' ρ' _ w' K hH' ((hA.ext hx hn).put hdst.2 hr hlt) hk.2 (fun tm' H'' n'' ρ'' a' w'' k1 k2 k3 k4 k5 => hK tm' H'' n'' ρ'' a' w'' k1 k2 k3 (hx.trans k4 hn) (Nat.le_trans hn k5))
    · intro hk
      rw [hdst.1] at hk
      exact vcL_sound hC hE hI Y L _ H n ρ _ w K hH (hA.put (v := .v undef) hdst.2 rfl rfl) hk.2 hK
theorem TRel.teq (h : TRel ρ n tm a) (he : TEq tm tm') : TRel ρ n tm' a := ⟨fun t v hv => h.get t v (by rw [he t]; exact hv)⟩
def cloS (I : List DOp) : Nat → List Nat → List Nat
  | 0, s => s
  | k + 1, s => cloS I k (s ++ s.flatMap fun p => match I[p]? with
    | some o => o.pre
    | none => []).eraseDups
def clo (I : List DOp) : List DOp := I.map fun o => ⟨o.m, cloS I 4 o.pre⟩
theorem cloS_mono {I : List DOp} : ∀ {k : Nat} {s : List Nat} {p : Nat}, p ∈ s → p ∈ cloS I k s
  | 0, s, p, h => h
  | k + 1, s, p, h => cloS_mono (k := k) (List.mem_eraseDups.2 (List.mem_append_left _ h))
theorem cloS_in {I : List DOp} {D : List Nat} (hD : ∀ p ∈ D, ∀ o, I[p]? = some o → ∀ q ∈ o.pre, q ∈ D) : ∀ {k : Nat} {s : List Nat}, (∀ p ∈ s, p ∈ D) → ∀ p ∈ cloS I k s, p ∈ D
  | 0, s, h => h
  | k + 1, s, h => cloS_in hD (k := k) fun p hp => by
    rw [List.mem_eraseDups, List.mem_append] at hp
    rcases hp with hp | hp
    · exact h p hp
    · obtain ⟨q, hq, hp⟩ := List.mem_flatMap.1 hp
      split at hp
      · rename_i o ho; exact hD q (h q hq) o ho p hp
      · simp at hp
theorem clo_get {I : List DOp} {i : Nat} : (clo I)[i]? = (I[i]?).map fun o => ⟨o.m, cloS I 4 o.pre⟩ := by unfold clo; rw [List.getElem?_map]
theorem clo_ready {I : List DOp} {D : List Nat} (hD : ∀ p ∈ D, ∀ o, I[p]? = some o → ∀ q ∈ o.pre, q ∈ D) {i : Nat} : isReady (clo I) D i = true ↔ isReady I D i = true := by
  rw [isReady_spec, isReady_spec, clo_get]
  constructor
  · rintro ⟨h1, d, hd, h2⟩
    rw [Option.map_eq_some_iff] at hd
    obtain ⟨o, ho, rfl⟩ := hd
    exact ⟨h1, o, ho, fun p hp => h2 p (cloS_mono hp)⟩
  · rintro ⟨h1, o, ho, h2⟩
    exact ⟨h1, ⟨o.m, cloS I 4 o.pre⟩, by rw [ho]; rfl, cloS_in hD h2⟩
theorem clo_lin {I : List DOp} : ∀ {L D : List Nat}, (∀ p ∈ D, ∀ o, I[p]? = some o → ∀ q ∈ o.pre, q ∈ D) → Lin I D L → Lin (clo I) D L
  | [], D, hD, h => fun i => by
    have := h i
    cases hc : isReady (clo I) D i with
    | false => rfl
    | true => rw [(clo_ready hD).1 hc] at this; cases this
  | i :: L, D, hD, h => ⟨(clo_ready hD).2 h.1, clo_lin (fun p hp o ho q hq => by
    rcases List.mem_cons.1 hp with rfl | hp
    · obtain ⟨_, o', ho', h2⟩ := isReady_spec.1 h.1
      rw [ho] at ho'; cases ho'
      exact List.mem_cons_of_mem _ (h2 q hq)
    · exact List.mem_cons_of_mem _ (hD p hp o ho q hq)) h.2⟩
theorem drawn_sound {r : Option Nat} {N id : Nat} {ops : Array Oper} {I : List DOp} {T : DT} {Q : Exit → Act → World → Prop} (hC : TabOK P C) (hE : Enters P C) (hmix : P.follows .mixedOrders = true)
    (hI : trD P N ops ops.toList = some I) (hok : okI (clo I) = true) (hT : mkT (clo I) ops.size [] [] = some T)
    {K : List (Nat × SV) → Hp → Nat → Prop} (hH : HRel F w0 ρ n H w) (hA : ARel ds ρ N n tm a) (h : vcT C T tm H n K)
    (hK : ∀ tm' H' n' ρ' a' w', K tm' H' n' → HRel F w0 ρ' n' H' w' → ARel ds ρ' N n' tm' a' → Ext n ρ ρ' → n ≤ n' → Q .normal a' w') :
    (Code.region id ops true).wpIn (FW r) 0 P Q a w := by
  refine wpIn_region_draw fun t => ?_
  simp only [Region.schedule, hmix, Bool.true_or, if_true]
  have hlen : I.length = ops.size := by have := (trD_get hI).1; simpa using this.symm
  have hlin : Lin I [] (Region.linearise .any ops t) := by
    refine go_lin hlen (fun i d hd => ?_) ops.size t _ [] (by simp) (fun i => by simp [Array.getD_eq_getD_getElem?, Array.getElem?_replicate]; split <;> rfl) ?_
    · obtain ⟨o, q1, _, q3⟩ := (trD_get hI).2 i d hd
      exact ⟨o, by simpa using q1, q3⟩
    · unfold left; exact Nat.le_trans (List.length_filter_le _ _) (by simp)
  have h1 := vcT_mono (K' := fun t2 H n => ∃ t1, TEq t1 t2 ∧ K t1 H n) (fun t H n hk => ⟨t, fun _ => rfl, hk⟩) h
  have h2 := tree_sound hok (fun t1 t2 H n he ⟨t0, e0, hk⟩ => ⟨t0, fun x => (e0 x).trans (he x), hk⟩) ops.size [] [] T _ tm H n hT (by simp) (clo_lin (fun p hp => (by simp at hp)) hlin) h1
  refine vcL_sound (I := clo I) hC hE (fun i d hd => ?_) [] _ tm H n ρ a _ _ hH.drew hA h2 ?_
  · rw [clo_get, Option.map_eq_some_iff] at hd
    obtain ⟨d0, hd0, rfl⟩ := hd
    obtain ⟨o, q1, q2, _⟩ := (trD_get hI).2 i d0 hd0
    exact ⟨o, q1, q2⟩
  rintro tm' H' n' ρ' a' w' ⟨t1, e, hk⟩ k2 k3 k4 k5
  exact hK t1 H' n' ρ' a' w' hk k2 ⟨k3.t.teq fun t => (e t).symm, k3.size, k3.defers⟩ k4 k5
end Go.Sx

/- Code, loops, functions. -/
set_option linter.unusedVariables false
set_option linter.unusedSimpArgs false
namespace Go.Sx
variable {P : Program} {F : Nat → Prop} {w0 w : World} {ρ : Nat → Loc} {n : Nat} {H : Hp} {tm : List (Nat × SV)} {a : Act} {C : Tab} {ds : List Deferred}
inductive Ex where
  | normal
  | exit (id : Nat)
  | ret
def Sub (base : Nat) (t s : St) : Prop :=
  ∃ π : List (Nat × Nat), okπ base π = true ∧ tmSub π s.tm t.tm ∧ t.hp.x = s.hp.x ∧ hpSub π s.hp t.hp.l ∧ apartB π t.hp.l t.hp.l = true ∧ wfHp t.nx t.hp.l = true ∧ wfTm t.nx t.tm = true ∧ base ≤ t.nx ∧ t.nx ≤ 1000
def LoopVC (base : Nat) (body : St → (Ex → St → Prop) → Prop) (s : St) (K : Ex → St → Prop) : Prop :=
  ∃ (α : Type) (I : α → St) (μ : α → Nat), (∃ a0, Sub base (I a0) s) ∧ ∀ a, body (I a) fun e s' => match e with
    | .normal => ∃ a', Sub base (I a') s' ∧ μ a' < μ a
    | e => K e s'
def LoopU (base : Nat) (body : St → (Ex → St → Prop) → Prop) : Nat → St → (Ex → St → Prop) → Prop
  | 0, s, K => LoopVC base body s K
  | k + 1, s, K => body s fun e s' => match e with
    | .normal => LoopU base body k s' K
    | e => K e s'
def Loops (base : Nat) (body : St → (Ex → St → Prop) → Prop) (s : St) (K : Ex → St → Prop) : Prop := ∃ k, LoopU base body k s K
def rfEnd (k : Nat) (tm : List (Nat × SV)) (K : Ex → St → Prop) : SV → Hp → Nat → Prop := fun _ H n => ob (H.get k) fun o => o.wr = true ∧ match o.b with
  | .mp (.loop _ st pd _) => st ≠ .busy ∧ (match pd with
    | none => K .normal ⟨tm, H.del k, n⟩
    | some .ret => K .ret ⟨tm, H.del k, n⟩
    | some (.exit id) => K (.exit id) ⟨tm, H.del k, n⟩
    | _ => False)
  | _ => False
def rfK (C : Tab) (g : SV) (ps : List Nat) (N : Nat) (ma mb : MC) (s : St) (K : Ex → St → Prop) : Prop := s.nx < 1000 ∧ ∀ L : Loop, C.isL L N ps ma mb → match g with
  | .fn f caps => callK (C f) (.yl s.nx :: caps) (s.hp.put s.nx ⟨true, .mp (.loop L .ready none s.tm)⟩) (s.nx + 1) (rfEnd s.nx s.tm K)
  | .v (.func (.func f) ⟨[]⟩ ⟨[]⟩) => callK (C f) [.yl s.nx] (s.hp.put s.nx ⟨true, .mp (.loop L .ready none s.tm)⟩) (s.nx + 1) (rfEnd s.nx s.tm K)
  | _ => False
def noR : MC → Bool
  | .seq a b => noR a && noR b
  | .cond _ a b => noR a && noR b
  | .block _ b => noR b
  | .loop b => noR b
  | .rangeF .. => false
  | _ => true
def vc (C : Tab) (base : Nat) : MC → St → (Ex → St → Prop) → Prop
  | .skip, s, K => K .normal s
  | .reg _ ops, s, K => vcOps C ops s.tm s.hp s.nx fun tm H n => K .normal ⟨tm, H, n⟩
  | .regD T, s, K => vcT C T s.tm s.hp s.nx fun tm H n => K .normal ⟨tm, H, n⟩
  | .seq x y, s, K => vc C base x s fun e s' => match e with
    | .normal => vc C base y s' K
    | e => K e s'
  | .cond c x y, s, K => ob (ev s.tm c) fun c => asB c fun b => (b = true → vc C base x s K) ∧ (b = false → vc C base y s K)
  | .block id b, s, K => vc C base b s fun e s' => match e with
    | .exit j => if j = id then K .normal s' else K (.exit j) s'
    | e => K e s'
  | .loop b, s, K => Loops base (vc C base b) s K
  | .rangeF g ps N ma mb, s, K => ob (ev s.tm g) fun g => rfK C g ps N ma mb s K
  | .exit id, s, K => K (.exit id) s
  | .ret, s, K => K .ret s
def hasPanic (ops : Array Oper) : Bool := ops.toList.any fun o => match o.op with
  | .panic _ => true
  | _ => false
def dieC : MC := .cond (.k (.v (.pointer none))) .skip .skip
def trC (P : Program) (N : Nat) : Code → Option MC
  | .skip => some .skip
  | .region _ ops false => if hasPanic ops then some dieC else (trL P N ops ops.toList).map (.reg false)
  | .region _ ops true => if hasPanic ops then some dieC else match trD P N ops ops.toList with
    | some I => if okI (clo I) then (mkT (clo I) ops.size [] []).map .regD else none
    | none => none
  | .seq x y => match trC P N x, trC P N y with
    | some a, some b => some (.seq a b)
    | _, _ => none
  | .cond c x y => match trC P N x, trC P N y with
    | some a, some b => some (.cond (trA P 0 c) a b)
    | _, _ => none
  | .block id b => (trC P N b).map (.block id)
  | .loop b => (trC P N b).map .loop
  | .rangeFunc g ps x y => match trC P N x, trC P N y with
    | some a, some b => if noR a && noR b then some (.rangeF (trA P 0 g) ps.toList N a b) else none
    | _, _ => none
  | .exit id => some (.exit id)
  | .ret => some .ret
  | _ => none
def isLoop (P : Program) (L : Loop) (N : Nat) (ps : List Nat) (ma mb : MC) : Prop := trC P N L.assign = some ma ∧ trC P N L.body = some mb ∧ noR ma = true ∧ noR mb = true ∧ L.params.toList = ps ∧ L.tmps.size = N
def LpsOK (P : Program) (C : Tab) : Prop := ∀ L N ps ma mb, isLoop P L N ps ma mb → C.isL L N ps ma mb
structure Sup (F : Nat → Prop) (w0 : World) (F1 : Nat → Prop) (w1 : World) : Prop where
  sub : ∀ b, F b → F1 b
  same : ∀ b, F b → w1.heap[b]? = w0.heap[b]?
  old : ∀ b, F b → b < w0.heap.size
  size : w0.heap.size ≤ w1.heap.size
  os : w1.os = w0.os
  tape : w1.tape = w0.tape
  output : w1.output = w0.output
  shk : ShKeep w0 w1
theorem HRel.coarse {F1 : Nat → Prop} {w1 : World} (h : HRel F1 w1 ρ n H w) (hs : Sup F w0 F1 w1) : HRel F w0 ρ n H w :=
  { h with
    os := h.os.trans hs.os
    tape := h.tape.trans hs.tape
    output := h.output.trans hs.output
    shk := hs.shk.trans h.shk
    size := Nat.le_trans hs.size h.size
    keep := fun b hb => (h.keep b (hs.sub b hb)).trans (hs.same b hb)
    old := hs.old
    own := fun i s b hi hw hb hF => h.own i s b hi hw hb (hs.sub b hF) }
theorem Sup.refl (h : HRel F w0 ρ n H w) : Sup F w0 F w0 := ⟨fun _ h => h, fun _ _ => rfl, h.old, Nat.le_refl _, rfl, rfl, rfl, ShKeep.refl _⟩
def MkOK (F1 : Nat → Prop) (w0 w1 : World) : List Deferred → Prop
  | [] => True
  | d :: r => (∃ D, d = { target := .collected D, args := #[] } ∧ w0.heap.size ≤ D ∧ F1 D ∧ w1.heap[D]? = some (.deferred (some [])) ∧ ∀ d' ∈ r, d' ≠ d) ∧ MkOK F1 w0 w1 r
theorem MkOK.mono {F1 F2 : Nat → Prop} {w1 w2 : World} : ∀ {l : List Deferred}, MkOK F1 w0 w1 l → (∀ D, F1 D → { target := .collected D, args := #[] } ∈ l → F2 D ∧ w2.heap[D]? = w1.heap[D]?) → MkOK F2 w0 w2 l
  | [], _, _ => trivial
  | d :: r, ⟨⟨D, h1, h2, h3, h4, h5⟩, h6⟩, h => by
    obtain ⟨k1, k2⟩ := h D h3 (by rw [h1]; exact List.mem_cons_self ..)
    exact ⟨⟨D, h1, h2, k1, k2.trans h4, h5⟩, h6.mono fun D hD hm => h D hD (List.mem_cons_of_mem _ hm)⟩
theorem MkOK.lt {F1 : Nat → Prop} {w1 : World} : ∀ {l : List Deferred}, MkOK F1 w0 w1 l → ∀ D, { target := .collected D, args := #[] } ∈ l → F1 D
  | d :: r, ⟨⟨D, h1, h2, h3, h4, h5⟩, h6⟩, D', hm => by
    rcases List.mem_cons.1 hm with e | hm
    · rw [h1] at e; cases e; exact h3
    · exact h6.lt D' hm
structure SRel (F : Nat → Prop) (w0 : World) (N base : Nat) (ρ0 ρ : Nat → Loc) (s : St) (a : Act) (w : World) : Prop where
  g : ∃ F1 w1, HRel F1 w1 ρ s.nx s.hp w ∧ Sup F w0 F1 w1 ∧ MkOK F1 w0 w1 a.defers
  a : ARel a.defers ρ N s.nx s.tm a
  e : Ext base ρ0 ρ
  b : base ≤ s.nx
theorem SRel.h {N base : Nat} {ρ0 : Nat → Loc} {s : St} (h : SRel F w0 N base ρ0 ρ s a w) : HRel F w0 ρ s.nx s.hp w := let ⟨_, _, h1, h2, _⟩ := h.g; h1.coarse h2
def exOf : Ex → Exit
  | .normal => .normal
  | .exit id => .exit id
  | .ret => .ret
theorem Sub.sound {N base : Nat} {ρ0 : Nat → Loc} {t s : St} (hs : Sub base t s) (hb : 0 < base) (h : SRel F w0 N base ρ0 ρ s a w) : ∃ ρ', SRel F w0 N base ρ0 ρ' t a w := by
  obtain ⟨π, h1, h2, h3, h4, h5, h6, h7, h8, h9⟩ := hs
  obtain ⟨F1, w1, q1, q2, q3⟩ := h.g
  refine ⟨fun i => ρ (rn π i), ⟨F1, w1, q1.rename π h1 h3 h4 h5 h6 (Nat.lt_of_lt_of_le hb h8) hb h9, q2, q3⟩, ⟨⟨fun u v hv => ?_⟩, h.a.size, h.a.defers⟩, fun i hi => ?_, h8⟩
  · have hm := lk_mem hv
    obtain ⟨⟨x, e1, e2⟩, _⟩ := h.a.t.get u _ (tmSub_mem h2 u v hm)
    exact ⟨⟨x, e1, rel_ren.1 e2⟩, wfTm_mem h7 u v hm⟩
  · show ρ (rn π i) = ρ0 i
    rw [okπ_spec h1 i (by unfold idOK at hi; simp at hi; omega)]
    exact h.e i hi
theorem wpIn_loop' {G : Fence} {k0 : Nat} {P : Program} {Q : Exit → Act → World → Prop} {a : Act} {w : World} {c : Code} {ι : Type} {r : ι → ι → Prop} (wf : WellFounded r) (J : ι → Act → World → Prop) {n0 : ι} (h₀ : J n0 a w)
    (round : ∀ n a w, J n a w → c.wpIn G k0 P (Exit.then (fun a' w' => ∃ m, r m n ∧ J m a' w') Q) a w) : (Code.loop c).wpIn G k0 P Q a w := by
  intro b k cs hro hb hr
  have key : ∀ n a w, J n a w →
      ∃ e a' w', Q e a' w' ∧ ArrivesIn (Machine.fenced P G) P (lone (b.atR a (.code c :: .inLoop c :: k)) cs w) b k cs e a' w' := by
    intro n
    induction n using wf.induction with
    | _ n ih =>
      intro a w hI
      obtain ⟨e, a₁, w₁, hq, harr⟩ := round n a w hI b (.inLoop c :: k) cs hro hb hr
      cases e with
      | normal =>
        obtain ⟨m, hlt, hI₁⟩ := hq
        obtain ⟨e₂, a₂, w₂, hq₂, harr₂⟩ := ih m hlt a₁ w₁ hI₁
        exact ⟨e₂, a₂, w₂, hq₂, .of_steps (StepsIn.trans harr (.one (fenced_calm hb hr rfl) stepR_inLoop)) harr₂⟩
      | exit id => exact ⟨_, a₁, w₁, hq, .pass (x := .inLoop c) rfl (fun _ _ => .inl (by simp)) harr⟩
      | goto l => exact ⟨_, a₁, w₁, hq, .pass (x := .inLoop c) rfl (fun _ _ => .inl (by simp)) harr⟩
      | ret => exact ⟨_, a₁, w₁, hq, .pass (x := .inLoop c) rfl (fun _ _ => .inl (by simp)) harr⟩
      | panic ch => exact ⟨_, a₁, w₁, hq, .pass (x := .inLoop c) rfl (fun _ _ => .inl (by simp)) harr⟩
      | outgrown => exact ⟨_, a₁, w₁, hq, .pass (x := .inLoop c) rfl (fun _ _ => .inl (by simp)) harr⟩
  obtain ⟨e, a', w', hq, harr⟩ := key _ a w h₀
  exact ⟨e, a', w', hq, .of_steps (.one (fenced_calm hb hr rfl) stepR_loop) harr⟩
theorem HRel.grow {w' : World} (h : HRel F w0 ρ n H w) (os : w'.os = w.os) (tape : w'.tape = w.tape) (output : w'.output = w.output) (size : w.heap.size ≤ w'.heap.size) (hold : ∀ b, b < w.heap.size → w'.heap[b]? = w.heap[b]?) : HRel F w0 ρ n H w' :=
  { h with
    shp := h.shp.keep (ShKeep.of_old hold)
    shk := h.shk.trans (ShKeep.of_old hold)
    os := os.trans h.os
    tape := tape.trans h.tape
    output := output.trans h.output
    size := Nat.le_trans h.size size
    keep := fun b hb => (hold b (Nat.lt_of_lt_of_le (h.old b hb) h.size)).trans (h.keep b hb)
    obj := fun i s hi => ObjOK.world (fun b hb => hold b (h.live i s b hi hb)) (h.obj i s hi)
    live := fun i s b hi hb => Nat.lt_of_lt_of_le (h.live i s b hi hb) size }
theorem HRel.rebase {F2 : Nat → Prop} (h : HRel F w0 ρ n H w) (hlt : ∀ b, F2 b → b < w.heap.size) (hown : ∀ i s b, H.get i = some s → s.wr = true → (ρ i).blk = some b → ¬ F2 b) : HRel F2 w ρ n H w :=
  { h with os := rfl, tape := rfl, output := rfl, size := Nat.le_refl _, keep := fun _ _ => rfl, old := hlt, own := hown, shk := ShKeep.refl _ }
theorem HRel.drop {w' : World} (h : HRel F w0 ρ n H w) {i b : Nat} {s : SO} (hi : H.get i = some s) (hw : s.wr = true) (hb : (ρ i).blk = some b) (os : w'.os = w.os) (tape : w'.tape = w.tape) (output : w'.output = w.output)
    (size : w'.heap.size = w.heap.size) (hoth : ∀ k, k ≠ b → w'.heap[k]? = w.heap[k]?) (hsk : ShKeep w w') : HRel F w0 ρ n (H.del i) w' := by
  have hg : ∀ j t, (H.del i).get j = some t → H.get j = some t ∧ j ≠ i := fun j t hj => by
    rw [Hp.get_del] at hj
    split at hj
    · cases hj
    · rename_i e; exact ⟨hj, Ne.symm e⟩
  have hF : ¬ F b := h.own i s b hi hw hb
  refine ⟨os.trans h.os, tape.trans h.tape, output.trans h.output, by rw [size]; exact h.size, fun k hk => (hoth k fun e => hF (e ▸ hk)).trans (h.keep k hk), h.old, h.nil, h.pos, ?_, ?_, ?_, ?_, ?_, fun j t hj => ?_, h.shp.keep hsk, h.shk.trans hsk, h.gl⟩
  · intro j t hj
    obtain ⟨q1, q2⟩ := hg j t hj
    exact ObjOK.world (fun k hk => hoth k fun e => h.inj i j s t b (Ne.symm q2) hi q1 hw hb (e ▸ hk)) (h.obj j t q1)
  · exact fun j t hj => h.lt j t (hg j t hj).1
  · exact fun j t k hj => h.own j t k (hg j t hj).1
  · exact fun j k t u q hjk hj hk => h.inj j k t u q hjk (hg j t hj).1 (hg k u hk).1
  · intro j t k hj hk; rw [size]; exact h.live j t k (hg j t hj).1 hk
  · obtain ⟨h1, h2, h3, h4⟩ := h.xok j t hj
    refine ⟨h1, h2, h3, ?_⟩
    simp only [Hp.del, lk]
    rw [if_neg (fun e : i = j => h.wr_lt hi hw t (e ▸ hj))]; exact h4
inductive Ph where
  | rounds (k : Nat)
  | fam (m : Nat)
def Ph.rel : Ph → Ph → Prop
  | .rounds j, .rounds k => j < k
  | .fam _, .rounds _ => True
  | .fam i, .fam m => i < m
  | .rounds _, .fam _ => False
theorem Ph.wf : WellFounded Ph.rel := by
  have hf : ∀ m, Acc Ph.rel (.fam m) := fun m => by
    induction m using Nat.strongRecOn with
    | _ m ih => exact ⟨_, fun y hy => by
        cases y with
        | rounds k => exact hy.elim
        | fam i => exact ih i hy⟩
  refine ⟨fun x => ?_⟩
  cases x with
  | fam m => exact hf m
  | rounds k =>
    induction k using Nat.strongRecOn with
    | _ k ih => exact ⟨_, fun y hy => by
        cases y with
        | rounds j => exact ih j hy
        | fam i => exact hf i⟩
theorem vc_sound {r : Option Nat} {N base : Nat} {ρ0 : Nat → Loc} (hC : TabOK P C) (hE : Enters P C) (hL : LpsOK P C) (hmix : P.follows .mixedOrders = true) (hb : 0 < base) : ∀ (c : Code) (m : MC) (s : St) (K : Ex → St → Prop) (Q : Exit → Act → World → Prop) (ρ : Nat → Loc) (a : Act) (w : World), (r = none ∨ noR m = true) → trC P N c = some m → vc C base m s K → SRel F w0 N base ρ0 ρ s a w →
    (∀ e s' ρ' a' w', K e s' → SRel F w0 N base ρ0 ρ' s' a' w' → Q (exOf e) a' w') → c.wpIn (FW r) 0 P Q a w
  | .skip, m, s, K, Q, ρ, a, w, hr, hm, h, hR, hQ => by
    cases hm; exact wpIn_skip (hQ .normal s ρ a w h hR)
  | .region id ops draw, m, s, K, Q, ρ, a, w, hr, hm, h, hR, hQ => by
    cases hp : hasPanic ops
    case true =>
      exfalso
      have : m = dieC := by cases draw <;> simp only [trC, hp, if_true] at hm <;> exact (Option.some.inj hm).symm
      subst this
      exact h
    cases draw
    case true =>
      simp only [trC, hp, Bool.false_eq_true, if_false] at hm
      split at hm
      · rename_i I hI
        split at hm
        · rename_i hok
          simp only [Option.map_eq_some_iff] at hm
          obtain ⟨T, hT, rfl⟩ := hm
          obtain ⟨F1, w1, q1, q2, q3⟩ := hR.g
          exact drawn_sound (K := fun tm H n => K .normal ⟨tm, H, n⟩) hC hE hmix hI hok hT q1 hR.a h (fun tm' H' n' ρ' a' w' k1 k2 k3 k4 k5 => hQ .normal ⟨tm', H', n'⟩ ρ' a' w' k1 ⟨⟨F1, w1, k2, q2, by rw [k3.defers]; exact q3⟩, ⟨k3.t, k3.size, rfl⟩, hR.e.trans k4 hR.b, Nat.le_trans hR.b k5⟩)
        · cases hm
      · cases hm
    simp only [trC, hp, Bool.false_eq_true, if_false, Option.map_eq_some_iff] at hm
    obtain ⟨ms, hms, rfl⟩ := hm
    refine wpIn_region ?_
    obtain ⟨F1, w1, q1, q2, q3⟩ := hR.g
    have := vcOps_sound (Q := Q) (r := r) hC hE ops.toList 0 ms s.tm s.hp s.nx ρ a w _ (fun j o ho => by simpa using ho) hms q1 hR.a h (fun tm' H' n' ρ' a' w' k1 k2 k3 k4 k5 => hQ .normal ⟨tm', H', n'⟩ ρ' a' w' k1 ⟨⟨F1, w1, k2, q2, by rw [k3.defers]; exact q3⟩, ⟨k3.t, k3.size, rfl⟩, hR.e.trans k4 hR.b, Nat.le_trans hR.b k5⟩)
    rwa [Array.length_toList, ← List.range_eq_range'] at this
  | .seq x y, m, s, K, Q, ρ, a, w, hr, hm, h, hR, hQ => by
    simp only [trC] at hm
    split at hm
    · rename_i mx my hx hy
      cases hm
      have hr1 : r = none ∨ noR mx = true := hr.imp id fun e => by simp only [noR, Bool.and_eq_true] at e; exact e.1
      have hr2 : r = none ∨ noR my = true := hr.imp id fun e => by simp only [noR, Bool.and_eq_true] at e; exact e.2
      refine wpIn_seq ?_
      refine vc_sound hC hE hL hmix hb x mx s _ _ ρ a w hr1 hx h hR fun e s' ρ' a' w' k1 k2 => ?_
      cases e with
      | normal => exact vc_sound hC hE hL hmix hb y my s' K Q ρ' a' w' hr2 hy k1 k2 hQ
      | exit id => exact hQ _ s' ρ' a' w' k1 k2
      | ret => exact hQ _ s' ρ' a' w' k1 k2
    · cases hm
  | .cond c x y, m, s, K, Q, ρ, a, w, hr, hm, h, hR, hQ => by
    simp only [trC] at hm
    split at hm
    · rename_i mx my hx hy
      cases hm
      have hr1 : r = none ∨ noR mx = true := hr.imp id fun e => by simp only [noR, Bool.and_eq_true] at e; exact e.1
      have hr2 : r = none ∨ noR my = true := hr.imp id fun e => by simp only [noR, Bool.and_eq_true] at e; exact e.2
      replace h := ob_elim h; obtain ⟨v, hv, h⟩ := h
      replace h := asB_elim h; obtain ⟨b, rfl, h⟩ := h
      have hrc := (ev_ok hR.h hR.a.t hv).1
      rw [rel_v] at hrc
      exact wpIn_cond_split hrc (fun e => vc_sound hC hE hL hmix hb x mx s K Q ρ a w hr1 hx (h.1 e) hR hQ) (fun e => vc_sound hC hE hL hmix hb y my s K Q ρ a w hr2 hy (h.2 e) hR hQ)
    · cases hm
  | .block id b, m, s, K, Q, ρ, a, w, hr, hm, h, hR, hQ => by
    simp only [trC, Option.map_eq_some_iff] at hm
    obtain ⟨mb, hmb, rfl⟩ := hm
    refine wpIn_block ?_
    refine vc_sound hC hE hL hmix hb b mb s _ _ ρ a w hr hmb h hR fun e s' ρ' a' w' k1 k2 => ?_
    cases e with
    | normal => exact hQ _ s' ρ' a' w' k1 k2
    | exit j =>
      simp only [exOf, Exit.inBlock]
      simp only at k1
      split
      · rename_i e; rw [if_pos e] at k1; exact hQ _ s' ρ' a' w' k1 k2
      · rename_i e; rw [if_neg e] at k1; exact hQ _ s' ρ' a' w' k1 k2
    | ret => exact hQ _ s' ρ' a' w' k1 k2
  | .loop b, m, s, K, Q, ρ, a, w, hr, hm, h, hR, hQ => by
    simp only [trC, Option.map_eq_some_iff] at hm
    obtain ⟨mb, hmb, rfl⟩ := hm
    obtain ⟨k, h⟩ := h
    have fam : ∀ s (ρ : Nat → Loc) a w, LoopVC base (vc C base mb) s K → SRel F w0 N base ρ0 ρ s a w → (∃ (α : Type) (I : α → St) (μ : α → Nat), (∃ x ρ, SRel F w0 N base ρ0 ρ (I x) a w) ∧ ∀ x, vc C base mb (I x) fun e s' => match e with
        | .normal => ∃ a', Sub base (I a') s' ∧ μ a' < μ x
        | e => K e s') := fun s ρ a w ⟨α, I, μ, ⟨a0, h0⟩, hr⟩ hR => ⟨α, I, μ, let ⟨ρ1, h1⟩ := h0.sound hb hR; ⟨a0, ρ1, h1⟩, hr⟩
    refine wpIn_loop' Ph.wf (fun p a w => match p with
      | .rounds k => ∃ s ρ, LoopU base (vc C base mb) k s K ∧ SRel F w0 N base ρ0 ρ s a w
      | .fam m => ∃ (α : Type) (I : α → St) (μ : α → Nat), (∃ x ρ, μ x = m ∧ SRel F w0 N base ρ0 ρ (I x) a w) ∧ ∀ x, vc C base mb (I x) fun e s' => match e with
        | .normal => ∃ a', Sub base (I a') s' ∧ μ a' < μ x
        | e => K e s') (n0 := .rounds k) ⟨s, ρ, h, hR⟩ fun p a w hJ => ?_
    have famstep : ∀ (p : Ph) (α : Type) (I : α → St) (μ : α → Nat) (x : α) (ρ : Nat → Loc) (a : Act) (w : World), Ph.rel (.fam (μ x)) p ∨ p = .fam (μ x) → SRel F w0 N base ρ0 ρ (I x) a w → (∀ x, vc C base mb (I x) fun e s' => match e with
        | .normal => ∃ a', Sub base (I a') s' ∧ μ a' < μ x
        | e => K e s') → b.wpIn (FW r) 0 P (Exit.then (fun a' w' => ∃ q, Ph.rel q p ∧ (match q with
      | .rounds k => ∃ s ρ, LoopU base (vc C base mb) k s K ∧ SRel F w0 N base ρ0 ρ s a' w'
      | .fam m => ∃ (α : Type) (I : α → St) (μ : α → Nat), (∃ x ρ, μ x = m ∧ SRel F w0 N base ρ0 ρ (I x) a' w') ∧ ∀ x, vc C base mb (I x) fun e s' => match e with
        | .normal => ∃ a', Sub base (I a') s' ∧ μ a' < μ x
        | e => K e s')) Q) a w := by
      intro p α I μ x ρ a w hp hR hround
      refine vc_sound hC hE hL hmix hb b mb (I x) _ _ ρ a w hr hmb (hround x) hR fun e s' ρ' a' w' k1 k2 => ?_
      cases e with
      | normal =>
        obtain ⟨x', hs, hlt⟩ := k1
        obtain ⟨ρ3, hR3⟩ := hs.sound hb k2
        refine ⟨.fam (μ x'), ?_, α, I, μ, ⟨x', ρ3, rfl, hR3⟩, hround⟩
        rcases hp with hp | hp
        · cases p with
          | rounds k => trivial
          | fam m => exact Nat.lt_trans hlt hp
        · rw [hp]; exact hlt
      | exit id => exact hQ _ s' ρ' a' w' k1 k2
      | ret => exact hQ _ s' ρ' a' w' k1 k2
    cases p with
    | fam m =>
      obtain ⟨α, I, μ, ⟨x, ρ2, hk, hR2⟩, hround⟩ := hJ
      exact famstep _ α I μ x ρ2 a w (.inr (by rw [hk])) hR2 hround
    | rounds k =>
      obtain ⟨s2, ρ2, hU, hR2⟩ := hJ
      cases k with
      | zero =>
        obtain ⟨α, I, μ, ⟨x, ρ3, hR3⟩, hround⟩ := fam s2 ρ2 a w hU hR2
        exact famstep _ α I μ x ρ3 a w (.inl trivial) hR3 hround
      | succ k =>
        refine vc_sound hC hE hL hmix hb b mb s2 _ _ ρ2 a w hr hmb hU hR2 fun e s' ρ' a' w' k1 k2 => ?_
        cases e with
        | normal => exact ⟨.rounds k, Nat.lt_succ_self k, s', ρ', k1, k2⟩
        | exit id => exact hQ _ s' ρ' a' w' k1 k2
        | ret => exact hQ _ s' ρ' a' w' k1 k2
  | .exit id, m, s, K, Q, ρ, a, w, hr, hm, h, hR, hQ => by
    cases hm; exact wpIn_exit (hQ (.exit id) s ρ a w h hR)
  | .ret, m, s, K, Q, ρ, a, w, hr, hm, h, hR, hQ => by
    cases hm; exact wpIn_ret (hQ .ret s ρ a w h hR)
  | .rangeFunc g ps x y, m, s, K, Q, ρ, a, w, hr, hm, h, hR, hQ => by
    simp only [trC] at hm
    split at hm
    case h_2 => cases hm
    rename_i ma mb hx hy
    split at hm
    case isFalse => cases hm
    rename_i hno
    simp only [Bool.and_eq_true] at hno
    cases hm
    obtain rfl : r = none := hr.resolve_right (by simp [noR])
    replace h := ob_elim h; obtain ⟨vg, hvg, hn, h⟩ := h
    obtain ⟨F1, w1, q1, q2, q3⟩ := hR.g
    refine wpIn_rangeFunc fun fn _ => ?_
    obtain ⟨L, hLdef⟩ : ∃ L : Loop, L = { state := .ready, pending := none, fn, tmps := a.tmps, params := ps, assign := x, body := y, defers := w.heap.size } := ⟨_, rfl⟩
    have hLi := hL L N ps.toList ma mb (by rw [hLdef]; exact ⟨hx, hy, hno.1, hno.2, rfl, hR.a.size⟩)
    replace h := h L hLi
    have hLr : L = { L with state := .ready, pending := none } := by rw [hLdef]
    obtain ⟨W1, hW1⟩ : ∃ W1, W1 = w.alloc (.deferred (some [])) := ⟨_, rfl⟩
    have hs1 : W1.heap.size = w.heap.size + 1 := by rw [hW1]; simp
    have g1 : HRel F1 w1 ρ s.nx s.hp W1 := by rw [hW1]; exact q1.grow rfl rfl rfl (by simp) (fun b hb => heap_alloc_old w _ b hb)
    have g2 : HRel (fun b => F1 b ∨ b = w.heap.size) W1 ρ s.nx s.hp W1 := g1.rebase (fun b hb => by
      rcases hb with hb | hb
      · have := q1.old b hb; have := q1.size; omega
      · omega) (fun i t b hi hw hbk hb => by
      rcases hb with hb | hb
      · exact q1.own i t b hi hw hbk hb
      · have := q1.live i t b hi hbk; omega)
    have g3 : HRel (fun b => F1 b ∨ b = w.heap.size) W1 (upd ρ s.nx ⟨some W1.heap.size, 0, 0, false, none⟩) (s.nx + 1) (s.hp.put s.nx ⟨true, .mp (.loop L .ready none s.tm)⟩) (W1.alloc (.loop L)) :=
      g2.alloc hn (.loop L) ⟨true, .mp (.loop L .ready none s.tm)⟩ ⟨some W1.heap.size, 0, 0, false, none⟩ rfl (lt_loop.2 fun t v hv => (hR.a.t.get t v hv).2) ⟨W1.heap.size, rfl, by rw [← hLr]; exact heap_alloc_new _ _, fun t v hv => by
        obtain ⟨x, e1, e2⟩ := (hR.a.t.get t v hv).1
        exact ⟨x, by rw [hLdef]; exact e1, e2⟩⟩
    have sup : Sup F w0 (fun b => F1 b ∨ b = w.heap.size) W1 := ⟨fun b hb => .inl (q2.sub b hb), fun b hb => (g1.keep b (q2.sub b hb)).trans (q2.same b hb), q2.old, by have := q2.size; have := g1.size; omega, g1.os.trans q2.os, g1.tape.trans q2.tape, g1.output.trans q2.output, q2.shk.trans g1.shk⟩
    have key : ∀ (f : Nat) (caps : List SV) (ys : List Value), a.eval g = .func (.func f) #[] ys.toArray → All2 (rel ρ) caps ys → caps.all (ltT s.nx) = true →
        callK (C f) (.yl s.nx :: caps) (s.hp.put s.nx ⟨true, .mp (.loop L .ready none s.tm)⟩) (s.nx + 1) (rfEnd s.nx s.tm K) →
        ∃ (l : Nat) (mark : List Deferred) (w₁ : World) (d : Deferred) (w₁' : World) (f : FuncId) (args : Array Value) (w₂ : World),
          (Instr.enterLoop fn a.tmps ps x y (FW none).round).run P w = .ok (l, mark) w₁ ∧ (resolve a.eval (rangeCall g l) 0).run P w₁ = .ok d w₁' ∧ (∀ f', Target.leads P w₁' d.target d.args = some f' → (FW none).fn f') ∧
          (invoke d.target d.args).run P w₁' = .ok (.enter f args) w₂ ∧ ((FW none).depth.isSome = true → 1 ≤ 0) ∧ CallsIn (FW none) (0 - 1) P f args w₂ (rangePost (FW none) 0 P l Q { a with defers := mark ++ a.defers }) := by
      intro f caps ys hg hz hlt hcall
      obtain ⟨K0, hc0, hK⟩ := hcall
      obtain ⟨fd, hf, hbd, hnm⟩ := hE _ _ _ _ _ hc0
      have hx1 : Ext s.nx ρ (upd ρ s.nx ⟨some W1.heap.size, 0, 0, false, none⟩) := Ext.upd hn
      refine ⟨w.heap.size + 1, [{ target := .collected w.heap.size, args := #[] }], W1.alloc (.loop L), { target := .fn (.func f) ys.toArray, args := #[.func (.yield (w.heap.size + 1)) #[] #[]] }, W1.alloc (.loop L), f,
        (.func (.yield (w.heap.size + 1)) #[] #[] :: ys).toArray, W1.alloc (.loop L), ?_, ?_, fun _ _ => trivial, ?_, (fun e => by cases e), callsFW none _ ?_⟩
      · rw [hLdef, hW1]; exact run_enterLoop_outer _ _ _ _ _
      · have e1 : (Act.eval a) (.const (.func (.yield (w.heap.size + 1)) #[] #[])) = .func (.yield (w.heap.size + 1)) #[] #[] := rfl
        simp only [resolve, hg, Deferred.ofValue, pure_bind, Sem.run_pure, e1, List.map_toArray, List.map_cons, List.map_nil, Array.empty_append]
      · simp only [invoke, List.push_append_toArray]
        have := run_callFunc (w := W1.alloc (.loop L)) hf hbd hnm (#[Value.func (.yield (w.heap.size + 1)) #[] #[]] ++ ys.toArray)
        have e9 : (#[Value.func (.yield (w.heap.size + 1)) #[] #[]] ++ ys.toArray : Array Value) = (Value.func (.yield (w.heap.size + 1)) #[] #[] :: ys).toArray := by rw [List.append_toArray]; rfl
        rw [e9] at this ⊢
        exact this
      · refine (hC.f f _ _ _ K0 hc0 _ W1 (W1.alloc (.loop L)) _ (.func (.yield (w.heap.size + 1)) #[] #[] :: ys) g3 ⟨⟨W1.heap.size, by rw [upd_same], by rw [hs1]⟩, All2.mono (fun c y hc hr => rel_ext hx1 (List.all_eq_true.1 hlt c hc) hr) hz⟩ (by
          rw [List.all_cons, Bool.and_eq_true]
          refine ⟨by show idOK (s.nx + 1) s.nx = true; unfold idOK; simp, ?_⟩
          rw [List.all_eq_true] at hlt ⊢
          exact fun c hc => ltT_mono (Nat.le_succ _) (hlt c hc))).mono ?_
        rintro e w' ⟨xv, v, H', n', ρ', hk0, rfl, hr', hlt', hH', hx', hn'⟩
        have hend := hK _ _ _ hk0
        unfold rfEnd at hend
        obtain ⟨⟨ow, obd⟩, ho, hw, hmt⟩ := ob_elim hend
        have hobj := hH'.obj s.nx _ ho
        have hlk : ρ' s.nx = ⟨some W1.heap.size, 0, 0, false, none⟩ := by
          rw [hx' s.nx (by unfold idOK; simp), upd_same]
        have hxx : Ext s.nx ρ ρ' := hx1.trans hx' (Nat.le_succ _)
        simp only at hmt hw
        split at hmt
        case h_2 => exact hmt.elim
        rename_i L' st pd tm'
        obtain ⟨hst, hmt⟩ := hmt
        obtain ⟨bk, hbk, hheap, _⟩ := hobj
        rw [hlk] at hbk
        simp only [Option.some.injEq] at hbk
        subst hbk
        rw [hs1] at hheap
        refine ⟨_, _, run_endLoop (P := P) hheap hst, ?_⟩
        have hdrop := hH'.drop (w' := w'.putObj (w.heap.size + 1) (.loop { { L' with state := st, pending := pd } with state := .exhausted })) ho hw (by rw [hlk]) rfl rfl rfl (by simp [World.putObj]) (fun k hk => World.putObj_heap_other (by rw [hs1] at hk; exact hk)) (ShKeep.of_none (b := w.heap.size + 1) (fun c T fr e => by rw [hheap] at e; cases e) (fun k hk => World.putObj_heap_other hk))
        have hS : SRel F w0 N base ρ0 ρ' ⟨s.tm, H'.del s.nx, n'⟩ { a with defers := [{ target := .collected w.heap.size, args := #[] }] ++ a.defers } (w'.putObj (w.heap.size + 1) (.loop { { L' with state := st, pending := pd } with state := .exhausted })) := by
          refine ⟨⟨_, W1, hdrop, sup, ⟨w.heap.size, rfl, hR.h.size, .inr rfl, by rw [hW1]; exact heap_alloc_new _ _, fun d' hd' e => ?_⟩, q3.mono fun D hD hm => ⟨.inl hD, ?_⟩⟩, ⟨⟨fun t v hv => ?_⟩, hR.a.size, rfl⟩, hR.e.trans hxx hR.b, Nat.le_trans hR.b (Nat.le_of_succ_le hn')⟩
          · rw [e] at hd'
            have := q3.lt _ hd'
            have := q1.old _ this; have := q1.size; omega
          · exact g1.keep D hD
          · obtain ⟨⟨y, e1, e2⟩, e3⟩ := hR.a.t.get t v hv
            exact ⟨⟨y, e1, rel_ext hxx e3 e2⟩, ltT_mono (Nat.le_of_succ_le hn') e3⟩
        cases pd with
        | none => exact hQ .normal _ ρ' _ _ hmt hS
        | some c =>
          cases c <;> first
            | exact hmt.elim
            | exact wpIn_ret (hQ .ret _ ρ' _ _ hmt hS)
            | exact wpIn_exit (hQ (.exit _) _ ρ' _ _ hmt hS)
    obtain ⟨hrg, hlg⟩ := ev_ok hR.h hR.a.t hvg
    split at h
    · rename_i f caps
      obtain ⟨ys, hval, hzc⟩ := hrg
      refine key f caps ys hval (All2.mono (fun c y _ hcy => by cases c <;> first | exact hcy | (simp only [arel] at hcy)) hzc) ?_ h
      rw [List.all_eq_true]
      intro x hx
      have := List.all_eq_true.1 (show caps.all (ltA s.nx) = true from hlg) x hx
      cases x <;> first | exact this | (simp only [ltA] at this; cases this)
    · rename_i f
      rw [rel_v] at hrg
      exact key f [] [] hrg trivial rfl h
    · exact h.elim
  | .scope _, m, s, K, Q, ρ, a, w, hr, hm, h, hR, hQ => by cases hm
  | .label _, m, s, K, Q, ρ, a, w, hr, hm, h, hR, hQ => by cases hm
  | .goto _, m, s, K, Q, ρ, a, w, hr, hm, h, hR, hQ => by cases hm
  | .refuse _, m, s, K, Q, ρ, a, w, hr, hm, h, hR, hQ => by cases hm
end Go.Sx

/- Functions. -/
set_option linter.unusedVariables false
set_option linter.unusedSimpArgs false
namespace Go.Sx
variable {P : Program} {F : Nat → Prop} {w0 w : World} {ρ : Nat → Loc} {n : Nat} {H : Hp} {tm : List (Nat × SV)} {a : Act} {C : Tab} {ds : List Deferred}
inductive MR where
  | t (s : Nat)
  | c1 (s : Nat)
  | cn (s n : Nat)
def trR (P : Program) : ResultVar → Option MR
  | .tmp t => some (.t t)
  | .cell s t => if known P t then (if isAggT P t then some (.cn s (szOf P t)) else some (.c1 s)) else none
def trRs (P : Program) : List ResultVar → Option (List MR)
  | [] => some []
  | r :: l => match trR P r, trRs P l with
    | some a, some b => some (a :: b)
    | _, _ => none
def notTup (v : SV) (K : Prop) : Prop := match v with
  | .tup _ => False
  | _ => K
def rsv (tm : List (Nat × SV)) (H : Hp) (r : MR) (K : SV → Prop) : Prop := match r with
  | .t s => ob (lk tm s) K
  | .c1 s => ob (lk tm s) fun a => asP a fun i o => ob (H.get i) fun s => s.b.get o K
  | .cn s n => ob (lk tm s) fun a => asP a fun i o => ob (H.get i) fun s => s.b.getN o n K
def rsvs (tm : List (Nat × SV)) (H : Hp) (r : List MR) (K : SV → Prop) : Prop := match r with
  | [] => K (.tup [])
  | [r] => rsv tm H r K
  | [r, s] => rsv tm H r fun a => rsv tm H s fun b => notTup a (notTup b (K (.tup [a, b])))
  | [r, s, t] => rsv tm H r fun a => rsv tm H s fun b => rsv tm H t fun c => notTup a (notTup b (notTup c (K (.tup [a, b, c]))))
  | [r, s, t, u] => rsv tm H r fun a => rsv tm H s fun b => rsv tm H t fun c => rsv tm H u fun d => notTup a (notTup b (notTup c (notTup d (K (.tup [a, b, c, d])))))
  | _ => False
def resOf (tmps : Array Value) : ResultVar → Sem Value
  | .tmp t => pure (tmps.getD t undef)
  | .cell a t => do loadVar t (← asAddr (tmps.getD a undef))
theorem results_eq (fn : Func) (tmps : Array Value) : results fn tmps = (do let vs ← fn.results.mapM (resOf tmps); pure (if h : vs.size = 1 then vs[0] else .tuple vs)) := rfl
theorem run_asAddr {b k : Nat} {v : Value} (h : v = .pointer (some ⟨b, k, none⟩)) : (asAddr v).run P w = .ok ⟨b, k, none⟩ w := by subst h; rfl
theorem getD_get {tmps : Array Value} {t : Nat} {x : Value} (h : tmps[t]? = some x) : tmps.getD t undef = x := by
  rw [Array.getD_eq_getD_getElem?, h]; rfl
theorem rsv_ok {r : ResultVar} {m : MR} {K : SV → Prop} (hm : trR P r = some m) (hH : HRel F w0 ρ n H w) (hT : TRel ρ n tm a) (h : rsv tm H m K) :
    ∃ v x, (resOf a.tmps r).run P w = .ok x w ∧ rel ρ v x ∧ ltT n v = true ∧ K v := by
  cases r with
  | tmp t =>
    simp only [trR, Option.some.injEq] at hm; subst hm
    obtain ⟨v, hv, hK⟩ := ob_elim h
    obtain ⟨⟨x, hx, hr⟩, hl⟩ := hT.get t v hv
    exact ⟨v, x, by simp [resOf, Array.getD_eq_getD_getElem?, hx], hr, hl, hK⟩
  | cell s t =>
    simp only [trR] at hm
    split at hm
    case isFalse => cases hm
    rename_i hkn
    simp only [known, Bool.and_eq_true, Option.isSome_iff_exists] at hkn
    obtain ⟨⟨d, hu⟩, inf, hi⟩ := hkn
    split at hm
    · rename_i hag
      cases hm
      obtain ⟨va, hva, h⟩ := ob_elim h
      obtain ⟨i, q, rfl, h⟩ := asP_elim h
      obtain ⟨so, hs, h⟩ := ob_elim h
      obtain ⟨v, hle, hK, hmp, hrel, hlt⟩ := getN_elim h
      obtain ⟨⟨x, hx, hr⟩, hl⟩ := hT.get s _ hva
      obtain ⟨blk, hb, hval⟩ := hr
      obtain ⟨c, T, fr, ys, e1, e2, e3, e4⟩ := row_read (obj_row hH hs hmp) hb q _ hle
      refine ⟨v, .agg ys.toArray, ?_, hrel ρ ys e3, hlt n (hH.lt i so hs).2, hK⟩
      have := run_loadCells (P := P) e1 ys e4
      rw [e2, szOf_eq hi] at this
      simp only [resOf, Sem.run_bind, getD_get hx, run_asAddr hval, Result.andThen_ok, loadVar, run_isAgg' hu, hag, if_true, run_sizeOf' hi, this, Sem.run_pure]
    · rename_i hag
      cases hm
      obtain ⟨va, hva, h⟩ := ob_elim h
      obtain ⟨i, q, rfl, h⟩ := asP_elim h
      obtain ⟨so, hs, h⟩ := ob_elim h
      obtain ⟨v, hv, hK, hmp⟩ := get_elim h
      obtain ⟨⟨x, hx, hr⟩, hl⟩ := hT.get s _ hva
      obtain ⟨blk, hb, hval⟩ := hr
      have hrow := obj_row hH hs hmp
      simp only [RowOK, hb] at hrow
      obtain ⟨c, T, fr, e1, e2, e3, e4, e5⟩ := hrow
      obtain ⟨y, hy, hr⟩ := e4 q v hv
      refine ⟨v, y, ?_, rel_of_crel hr, ltT_of_ltB (Body.lt_cells (hH.lt i so hs).2 (List.mem_of_getElem? hv)), hK⟩
      have := run_ld (P := P) e1 hy
      simp only [resOf, Sem.run_bind, getD_get hx, run_asAddr hval, Result.andThen_ok, loadVar, run_isAgg' hu, hag, Bool.false_eq_true, if_false, this]
theorem srel_of_rel {v : SV} {x : Value} {K : Prop} (h : rel ρ v x) (hn : notTup v K) : srel ρ v x ∧ K := by
  cases v <;> first
    | exact ⟨h, hn⟩
    | exact hn.elim
theorem ltC_of_ltT {v : SV} {K : Prop} (h : ltT n v = true) (hn : notTup v K) : ltC n v = true := by
  cases v <;> first
    | exact h
    | exact hn.elim
theorem toList_of {α : Type} {x : Array α} {l : List α} (h : x.toList = l) : x = l.toArray := by rw [← h]
theorem rsvs_ok {fn : Func} {ms : List MR} {K : SV → Prop} (hm : trRs P fn.results.toList = some ms) (hH : HRel F w0 ρ n H w) (hT : TRel ρ n tm a) (h : rsvs tm H ms K) :
    ∃ v x, (results fn a.tmps).run P w = .ok x w ∧ rel ρ v x ∧ ltT n v = true ∧ K v := by
  rw [results_eq]
  cases hl : fn.results.toList with
  | nil =>
    rw [hl] at hm; simp only [trRs, Option.some.injEq] at hm; subst hm
    rw [toList_of hl]
    exact ⟨.tup [], .tuple #[], by simp, ⟨[], rfl, trivial⟩, rfl, h⟩
  | cons r l =>
    rw [hl] at hm; simp only [trRs] at hm
    split at hm
    case h_2 => cases hm
    rename_i m ms' h1 h2
    cases hm
    rw [toList_of hl]
    cases l with
    | nil =>
      simp only [trRs, Option.some.injEq] at h2; subst h2
      obtain ⟨v, x, e1, e2, e3, e4⟩ := rsv_ok h1 hH hT h
      exact ⟨v, x, by simp [e1], e2, e3, e4⟩
    | cons r2 l =>
      simp only [trRs] at h2
      split at h2
      case h_2 => cases h2
      rename_i m2 ms2 h21 h22
      cases h2
      cases l with
      | nil =>
        simp only [trRs, Option.some.injEq] at h22; subst h22
        obtain ⟨v, x, e1, e2, e3, h⟩ := rsv_ok h1 hH hT h
        obtain ⟨v2, x2, f1, f2, f3, h⟩ := rsv_ok h21 hH hT h
        obtain ⟨g1, g2⟩ := srel_of_rel e2 h
        have l1 := ltC_of_ltT e3 h
        obtain ⟨g3, g4⟩ := srel_of_rel f2 g2
        have l2 := ltC_of_ltT f3 g2
        exact ⟨.tup [v, v2], .tuple #[x, x2], by simp [e1, f1], ⟨[x, x2], rfl, g1, g3, trivial⟩, by simp [ltT, l1, l2], g4⟩
      | cons r3 l =>
        simp only [trRs] at h22
        split at h22
        case h_2 => cases h22
        rename_i m3 ms3 h31 h32
        cases h22
        cases l with
        | nil =>
          simp only [trRs, Option.some.injEq] at h32; subst h32
          obtain ⟨v, x, e1, e2, e3, h⟩ := rsv_ok h1 hH hT h
          obtain ⟨v2, x2, f1, f2, f3, h⟩ := rsv_ok h21 hH hT h
          obtain ⟨v3, x3, k1, k2, k3, h⟩ := rsv_ok h31 hH hT h
          obtain ⟨g1, g2⟩ := srel_of_rel e2 h
          have l1 := ltC_of_ltT e3 h
          obtain ⟨g3, g4⟩ := srel_of_rel f2 g2
          have l2 := ltC_of_ltT f3 g2
          obtain ⟨g5, g6⟩ := srel_of_rel k2 g4
          have l3 := ltC_of_ltT k3 g4
          exact ⟨.tup [v, v2, v3], .tuple #[x, x2, x3], by simp [e1, f1, k1], ⟨[x, x2, x3], rfl, g1, g3, g5, trivial⟩, by simp [ltT, l1, l2, l3], g6⟩
        | cons r4 l =>
          simp only [trRs] at h32
          split at h32
          case h_2 => cases h32
          rename_i m4 ms4 h41 h42
          cases h32
          cases l with
          | nil =>
            simp only [trRs, Option.some.injEq] at h42; subst h42
            obtain ⟨v, x, e1, e2, e3, h⟩ := rsv_ok h1 hH hT h
            obtain ⟨v2, x2, f1, f2, f3, h⟩ := rsv_ok h21 hH hT h
            obtain ⟨v3, x3, k1, k2, k3, h⟩ := rsv_ok h31 hH hT h
            obtain ⟨v4, x4, p1, p2, p3, h⟩ := rsv_ok h41 hH hT h
            obtain ⟨g1, g2⟩ := srel_of_rel e2 h
            have l1 := ltC_of_ltT e3 h
            obtain ⟨g3, g4⟩ := srel_of_rel f2 g2
            have l2 := ltC_of_ltT f3 g2
            obtain ⟨g5, g6⟩ := srel_of_rel k2 g4
            have l3 := ltC_of_ltT k3 g4
            obtain ⟨g7, g8⟩ := srel_of_rel p2 g6
            have l4 := ltC_of_ltT p3 g6
            exact ⟨.tup [v, v2, v3, v4], .tuple #[x, x2, x3, x4], by simp [e1, f1, k1, p1], ⟨[x, x2, x3, x4], rfl, g1, g3, g5, g7, trivial⟩, by simp [ltT, l1, l2, l3, l4], g8⟩
          | cons r5 l =>
            simp only [trRs] at h42
            split at h42
            case h_2 => cases h42
            cases h42
            exact h.elim
def initTm : Nat → List SV → List (Nat × SV)
  | _, [] => []
  | i, v :: l => (i, v) :: initTm (i + 1) l
theorem initTm_lk : ∀ {l : List SV} {i t : Nat} {v : SV}, lk (initTm i l) t = some v → i ≤ t ∧ l[t - i]? = some v
  | [], i, t, v, h => by cases h
  | x :: l, i, t, v, h => by
    simp only [initTm, lk] at h
    split at h
    · rename_i e; subst e; cases h; simp
    · rename_i e
      obtain ⟨h1, h2⟩ := initTm_lk h
      refine ⟨by omega, ?_⟩
      rw [show t - i = (t - (i + 1)) + 1 by omega]
      simpa using h2
structure MFn where
  nargs : Nat
  code : MC
  res : List MR
def trFn (P : Program) (f : Nat) : Option MFn := match P.funcs[f]? with
  | none => none
  | some fn => match fn.body with
    | none => none
    | some c => match trC P fn.ntmps c, trRs P fn.results.toList with
      | some m, some r => if fn.name != "runtime.NumGoroutine" then some ⟨fn.ntmps, m, r⟩ else none
      | _, _ => none
def fnVC (C : Tab) (m : MFn) (args : List SV) (H : Hp) (n : Nat) (R : SV → Hp → Nat → Prop) : Prop :=
  args.length ≤ m.nargs ∧ vc C n m.code ⟨initTm 0 args, H, n⟩ fun e s => match e with
    | .exit _ => False
    | _ => rsvs s.tm s.hp m.res fun v => R v s.hp s.nx
theorem leaves_marks {fn : Func} {tmps : Array Value} {R : Ending → World → Prop} : ∀ (l : List Deferred) (F1 : Nat → Prop) (w1 w : World), HRel F1 w1 ρ n H w → Sup F w0 F1 w1 → MkOK F1 w0 w1 l →
    (∀ w', HRel F w0 ρ n H w' → ∃ v, (results fn tmps).run P w' = .ok v w' ∧ R (.returned v) w') → LeavesInM (FW none) 0 P fn tmps R l .returning w
  | [], F1, w1, w, h, hs, _, hR => hR w (h.coarse hs)
  | d :: r, F1, w1, w, h, hs, ⟨⟨D, h1, h2, h3, h4, h5⟩, h6⟩, hR => by
    refine ⟨by simp, .inl ⟨D, w.putObj D (.deferred none), by rw [h1], run_takeDeferred (by rw [h.keep D h3]; exact h4), ?_⟩⟩
    have hD : w.heap[D]? = some (.deferred (some [])) := (h.keep D h3).trans h4
    have hne : ∀ i s b, H.get i = some s → (ρ i).blk = some b → b ≠ D := by
      intro i s b hi hb e
      subst e
      have ho := h.obj i s hi
      obtain ⟨wr, bd⟩ := s
      by_cases hm : ∀ es, bd ≠ .mp es
      · have hr := (ho.row hm).1
        simp only [RowOK, hb] at hr
        obtain ⟨c, T, fr, e1, _⟩ := hr
        rw [hD] at e1; cases e1
      · rcases bd with _ | _ | _ | _ | (_ | _ | _ | _) <;> first
          | (exfalso; refine hm (fun es => ?_); simp; done)
          | (rw [ho.1] at hb; cases hb; done)
          | (obtain ⟨k, e1, e2⟩ := ho
             first
               | (obtain ⟨clk, e2, e3, _⟩ := e2; rw [hb] at e2; cases e2; rw [hD] at e3; cases e3)
               | (rw [hb] at e1; cases e1; rw [hD] at e2; cases e2.1))
    have hoth : ∀ b, b ≠ D → (w.putObj D (.deferred none)).heap[b]? = w.heap[b]? := fun b hb => World.putObj_heap_other hb
    have hH' : HRel (fun b => F1 b ∧ b ≠ D) w1 ρ n H (w.putObj D (.deferred none)) :=
      { h with
        shp := h.shp.keep (ShKeep.of_none (b := D) (fun c T fr e => by rw [hD] at e; cases e) hoth)
        shk := h.shk.trans (ShKeep.of_none (b := D) (fun c T fr e => by rw [hD] at e; cases e) hoth)
        size := by have := h.size; simpa [World.putObj] using this
        keep := fun b hb => (hoth b hb.2).trans (h.keep b hb.1)
        old := fun b hb => h.old b hb.1
        obj := fun i s hi => ObjOK.world (fun b hb => hoth b (hne i s b hi hb)) (h.obj i s hi)
        own := fun i s b hi hw hb hF => h.own i s b hi hw hb hF.1
        live := fun i s b hi hb => by have := h.live i s b hi hb; simpa [World.putObj] using this }
    refine leaves_marks r _ w1 _ hH' { hs with sub := fun b hb => ⟨hs.sub b hb, fun e => ?_⟩ } (h6.mono fun D' hD' hm => ⟨⟨hD', fun e => ?_⟩, rfl⟩) hR
    · have := hs.old b hb; omega
    · subst e; rw [h1] at h5; exact h5 _ hm rfl
theorem fn_sound {f : Nat} {m : MFn} {args : List SV} {xs : List Value} {R : SV → Hp → Nat → Prop} (hC : TabOK P C) (hE : Enters P C) (hL : LpsOK P C) (hmix : P.follows .mixedOrders = true) (hm : trFn P f = some m)
    (hH : HRel F w0 ρ n H w) (hz : All2 (rel ρ) args xs) (hl : args.all (ltT n) = true) (h : fnVC C m args H n R) :
    Calls P f xs.toArray w fun e w' => ∃ x v H' n' ρ', R v H' n' ∧ e = .returned x ∧ rel ρ' v x ∧ ltT n' v = true ∧ HRel F w0 ρ' n' H' w' ∧ Ext n ρ ρ' ∧ n ≤ n' := by
  unfold trFn at hm
  split at hm
  · cases hm
  rename_i fn hf
  split at hm
  · cases hm
  rename_i c hc
  split at hm
  case h_2 => cases hm
  rename_i mc mr h1 h2
  split at hm
  case isFalse => cases hm
  cases hm
  obtain ⟨hlen, h⟩ := h
  have hlx := All2.length hz
  refine CallsIn.calls (F := FW none) (n := 0) (callsIn_of_wp_marks hf hc trivial ?_) (fun k d hd => by cases hd)
  have hA : ARel [] ρ fn.ntmps n (initTm 0 args) { tmps := xs.toArray ++ Array.replicate (fn.ntmps - xs.toArray.size) undef, defers := [] } := by
    refine ⟨⟨fun t v hv => ?_⟩, ?_, rfl⟩
    · obtain ⟨_, h3⟩ := initTm_lk hv
      rw [Nat.sub_zero] at h3
      obtain ⟨y, hy, hr⟩ := All2.get hz h3
      refine ⟨⟨y, ?_, hr⟩, List.all_eq_true.1 hl v (List.mem_of_getElem? h3)⟩
      have hlt : t < xs.length := (List.getElem?_eq_some_iff.1 hy).1
      simp only []
      rw [Array.getElem?_append_left (by simpa using hlt)]
      simpa using hy
    · simp only [Array.size_append, List.size_toArray, Array.size_replicate]
      have : xs.length ≤ fn.ntmps := by rw [← hlx]; exact hlen
      omega
  refine vc_sound (r := none) hC hE hL hmix hH.pos c mc _ _ _ ρ _ w (.inl rfl) h1 h ⟨⟨F, w0, hH, Sup.refl hH, trivial⟩, hA, Ext.refl _ _, Nat.le_refl _⟩ ?_
  intro e s' ρ' a' w' hk hR
  obtain ⟨F1, w1, q1, q2, q3⟩ := hR.g
  have fin : rsvs s'.tm s'.hp mr (fun v => R v s'.hp s'.nx) → LeavesInM (FW none) 0 P fn a'.tmps (fun e w' => ∃ x v H' n' ρ', R v H' n' ∧ e = .returned x ∧ rel ρ' v x ∧ ltT n' v = true ∧ HRel F w0 ρ' n' H' w' ∧ Ext n ρ ρ' ∧ n ≤ n') a'.defers .returning w' := fun hk =>
    leaves_marks a'.defers F1 w1 w' q1 q2 q3 fun w2 h2' => by
      obtain ⟨v, x, e1, e2, e3, e4⟩ := rsvs_ok (a := a') h2 h2' hR.a.t hk
      exact ⟨x, e1, x, v, s'.hp, s'.nx, ρ', e4, rfl, e2, e3, h2', hR.e, hR.b⟩
  cases e with
  | exit id => exact hk.elim
  | normal => exact fin hk
  | ret => exact fin hk
def yEnd (i : Nat) (K : SV → Hp → Nat → Prop) (e : Ex) (s : St) : Prop := ob (s.hp.get i) fun o => o.wr = true ∧ match o.b with
  | .mp (.loop L _ _ tm) => (match e with
    | .normal => K (.v (.bool true)) (s.hp.put i ⟨true, .mp (.loop L .ready none tm)⟩) s.nx
    | .ret => K (.v (.bool false)) (s.hp.put i ⟨true, .mp (.loop L .done (some .ret) tm)⟩) s.nx
    | .exit id => K (.v (.bool false)) (s.hp.put i ⟨true, .mp (.loop L .done (some (.exit id)) tm)⟩) s.nx)
  | _ => False
def putPs : List Nat → List SV → List (Nat × SV) → List (Nat × SV)
  | p :: ps, v :: vs, tm => putPs ps vs ((p, v) :: tm)
  | _, _, tm => tm
def yMid (C : Tab) (n i : Nat) (mb : MC) (K : SV → Hp → Nat → Prop) (e : Ex) (s : St) : Prop := match e with
  | .normal => ob (s.hp.get i) fun o => o.wr = true ∧ match o.b with
    | .mp (.loop L .ready pd tm) => vc C n mb ⟨s.tm, s.hp.put i ⟨true, .mp (.loop L .busy pd tm)⟩, s.nx⟩ (yEnd i K)
    | _ => False
  | _ => False
def yVC (C : Tab) (i : Nat) (args : List SV) (H : Hp) (n : Nat) (K : SV → Hp → Nat → Prop) : Prop := ob (H.get i) fun o => o.wr = true ∧ match o.b with
  | .mp (.loop L .ready _ tm) => ∃ N ps ma mb, C.isL L N ps ma mb ∧ args.length = ps.length ∧ (ps.all fun p => decide (p < N)) = true ∧ vc C n ma ⟨putPs ps args tm, H, n⟩ (yMid C n i mb K)
  | _ => False
def IsLoops (P : Program) (C : Tab) : Prop := ∀ L N ps ma mb, C.isL L N ps ma mb → isLoop P L N ps ma mb
theorem HRel.setSp {w' : World} (h : HRel F w0 ρ n H w) {i b : Nat} {s : SO} (sp : Sp) (hi : H.get i = some s) (hw : s.wr = true) (hb : (ρ i).blk = some b) (hlt : (Body.mp sp).lt n = true) (hok : ObjOK ρ w' (ρ i) ⟨true, .mp sp⟩)
    (os : w'.os = w.os) (tape : w'.tape = w.tape) (output : w'.output = w.output) (size : w'.heap.size = w.heap.size) (hoth : ∀ k, k ≠ b → w'.heap[k]? = w.heap[k]?) (hnc : ∀ (c : Array Value) (T : TypeId) (fr : Nat × Nat), w.heap[b]? ≠ some (Obj.cells c T fr)) : HRel F w0 ρ n (H.put i ⟨true, .mp sp⟩) w' :=
  h.write i s ⟨true, .mp sp⟩ hi hw hlt hok os tape output size (fun k hk => hoth k fun e => hk (by rw [hb, e])) (ShKeep.of_none hnc hoth)
theorem foldl_put : ∀ (ps : List Nat) (args : List SV) (xs : List Value) (tm : List (Nat × SV)) (t : Array Value), args.length = ps.length → All2 (rel ρ) args xs → args.all (ltT n) = true → (ps.all fun p => decide (p < t.size)) = true →
    (∀ u v, lk tm u = some v → (∃ x, t[u]? = some x ∧ rel ρ v x) ∧ ltT n v = true) →
    ((ps.zip xs).foldl (fun t (p, v) => t.setIfInBounds p v) t).size = t.size ∧ ∀ u v, lk (putPs ps args tm) u = some v → (∃ x, ((ps.zip xs).foldl (fun t (p, v) => t.setIfInBounds p v) t)[u]? = some x ∧ rel ρ v x) ∧ ltT n v = true
  | [], args, xs, tm, t, _, _, _, _, h => ⟨rfl, by cases args <;> exact h⟩
  | p :: ps, a :: args, x :: xs, tm, t, hl, ⟨hz1, hz2⟩, hlt, hps, h => by
    simp only [List.all_cons, Bool.and_eq_true, decide_eq_true_eq] at hlt hps
    obtain ⟨h1, h2⟩ := foldl_put ps args xs ((p, a) :: tm) (t.setIfInBounds p x) (by simpa using hl) hz2 hlt.2 (by simpa using hps.2) (fun u v hv => by
      simp only [lk] at hv
      split at hv
      · rename_i e; subst e; cases hv
        exact ⟨⟨x, by rw [Array.getElem?_setIfInBounds_self_of_lt hps.1], hz1⟩, hlt.1⟩
      · rename_i e
        obtain ⟨⟨y, e1, e2⟩, e3⟩ := h u v hv
        exact ⟨⟨y, by rw [Array.getElem?_setIfInBounds_ne e]; exact e1, e2⟩, e3⟩)
    exact ⟨by rw [List.zip_cons_cons, List.foldl_cons, h1]; simp, by rw [List.zip_cons_cons, List.foldl_cons]; exact h2⟩
  | p :: ps, [], xs, tm, t, hl, _, _, _, _ => by simp at hl
  | p :: ps, a :: args, [], tm, t, hl, hz, _, _, _ => hz.elim
theorem y_sound {i : Nat} {args : List SV} {xs : List Value} {b : Nat} {K : SV → Hp → Nat → Prop} (hC : TabOK P C) (hE : Enters P C) (hL : LpsOK P C) (hI : IsLoops P C) (hmix : P.follows .mixedOrders = true)
    (hH : HRel F w0 ρ n H w) (hz : All2 (rel ρ) args xs) (hl : args.all (ltT n) = true) (hb : (ρ i).blk = some b) (h : yVC C i args H n K) :
    ∃ f tmps as bd, (Instr.yield b xs.toArray).run P w = .ok (.round b f tmps as bd) w ∧ RoundIn (FW none) 0 P b f tmps as bd w fun e w' => ∃ x v H' n' ρ', K v H' n' ∧ e = .returned x ∧ rel ρ' v x ∧ ltT n' v = true ∧ HRel F w0 ρ' n' H' w' ∧ Ext n ρ ρ' ∧ n ≤ n' := by
  obtain ⟨⟨ow, obd⟩, ho, hw, hmt⟩ := ob_elim h
  simp only at hw hmt
  split at hmt
  case h_2 => exact hmt.elim
  rename_i L pd tm
  obtain ⟨N, ps, ma, mb, hiL, hlen, hpsN, hvc⟩ := hmt
  obtain ⟨i1, i2, i3, i4, i5, i6⟩ := hI _ _ _ _ _ hiL
  obtain ⟨bk, hbk, hheap, htm⟩ := hH.obj i _ ho
  rw [hb] at hbk; cases hbk
  have hltm := lt_loop.1 (hH.lt i _ ho).2
  have hidi : idOK n i = true := (hH.lt i _ ho).1
  have hlx := All2.length hz
  refine ⟨_, _, _, _, run_yield (P := P) hheap (by show xs.toArray.size = L.params.size; rw [List.size_toArray, ← hlx, hlen, ← i5]; simp), ?_⟩
  refine roundIn_of_wpIn (F := FW none) trivial ?_
  obtain ⟨s1, s2⟩ := foldl_put (ρ := ρ) (n := n) ps args xs tm L.tmps hlen hz hl (by rw [i6]; exact hpsN) (fun u v hv => ⟨htm u v hv, hltm u v hv⟩)
  have hfold : ∀ t : Array Value, ((L.params.zip xs.toArray).foldl (fun tmps (t, a) => tmps.setIfInBounds t a) t) = ((ps.zip xs).foldl (fun t (p, v) => t.setIfInBounds p v) t) := by
    intro t
    rw [← i5, ← Array.foldl_toList, Array.toList_zip]
  have hS0 : SRel F w0 N n ρ ρ ⟨putPs ps args tm, H, n⟩ { tmps := (L.params.zip xs.toArray).foldl (fun tmps (t, a) => tmps.setIfInBounds t a) L.tmps, defers := [] } w := by
    refine ⟨⟨F, w0, hH, Sup.refl hH, trivial⟩, ⟨⟨fun t v hv => ?_⟩, ?_, rfl⟩, Ext.refl _ _, Nat.le_refl _⟩
    · rw [hfold]; exact s2 t v hv
    · show ((L.params.zip xs.toArray).foldl _ L.tmps).size = N
      rw [hfold, s1, i6]
  refine vc_sound (r := some b) hC hE hL hmix hH.pos L.assign ma _ _ _ ρ _ w (.inr i3) i1 hvc hS0 ?_
  intro e s' ρ' a' w' hk hR
  cases e with
  | exit id => exact hk.elim
  | ret => exact hk.elim
  | normal =>
    obtain ⟨⟨ow1, obd1⟩, ho1, hw1, hmt1⟩ := ob_elim hk
    simp only at hw1 hmt1
    split at hmt1
    case h_2 => exact hmt1.elim
    rename_i L1 pd1 tm1
    have hbi : (ρ' i).blk = some b := by rw [hR.e i hidi]; exact hb
    obtain ⟨bk, hbk, hheap1, htm1⟩ := hR.h.obj i _ ho1
    rw [hbi] at hbk; cases hbk
    obtain ⟨F1, w1, q1, q2, q3⟩ := hR.g
    refine ⟨_, run_beginRound (P := P) hheap1 rfl, ?_⟩
    have hS1 : SRel F w0 N n ρ ρ' ⟨s'.tm, s'.hp.put i ⟨true, .mp (.loop L1 .busy pd1 tm1)⟩, s'.nx⟩ a' (w'.putObj b (.loop { { L1 with state := .ready, pending := pd1 } with state := .busy })) := by
      refine ⟨⟨F1, w1, q1.setSp (.loop L1 .busy pd1 tm1) ho1 hw1 hbi (lt_loop.2 (lt_loop.1 (q1.lt i _ ho1).2)) ⟨b, hbi, ?_, htm1⟩ rfl rfl rfl (by simp [World.putObj]) (fun k hk => World.putObj_heap_other hk) (fun c T fr e => by rw [hheap1] at e; cases e), q2, q3⟩, hR.a, hR.e, hR.b⟩
      exact World.putObj_heap_same (Array.getElem?_eq_some_iff.1 hheap1).1
    refine vc_sound (r := some b) hC hE hL hmix hH.pos L.body mb _ _ _ ρ' _ _ (.inr i4) i2 hmt1 hS1 ?_
    intro e2 s2 ρ2 a2 w2 hk2 hR2
    obtain ⟨⟨ow2, obd2⟩, ho2, hw2, hmt2⟩ := ob_elim hk2
    simp only at hw2 hmt2
    split at hmt2
    case h_2 => exact hmt2.elim
    rename_i L2 st2 pd2 tm2
    have hbi2 : (ρ2 i).blk = some b := by rw [hR2.e i hidi]; exact hb
    obtain ⟨bk, hbk, hheap2, htm2⟩ := hR2.h.obj i _ ho2
    rw [hbi2] at hbk; cases hbk
    have hset : ∀ (st : LoopState) (pd : Option Code), HRel F w0 ρ2 s2.nx (s2.hp.put i ⟨true, .mp (.loop L2 st pd tm2)⟩) (w2.putObj b (.loop { { L2 with state := st2, pending := pd2 } with state := st, pending := pd })) := fun st pd =>
      hR2.h.setSp (.loop L2 st pd tm2) ho2 hw2 hbi2 (lt_loop.2 (lt_loop.1 (hR2.h.lt i _ ho2).2)) ⟨b, hbi2, World.putObj_heap_same (Array.getElem?_eq_some_iff.1 hheap2).1, htm2⟩ rfl rfl rfl (by simp [World.putObj]) (fun k hk => World.putObj_heap_other hk) (fun c T fr e => by rw [hheap2] at e; cases e)
    cases e2 with
    | normal => exact ⟨_, _, run_endRound (P := P) none hheap2, _, _, _, _, _, hmt2, rfl, rfl, rfl, hset .ready none, hR2.e, hR2.b⟩
    | ret => exact ⟨_, _, run_endRound (P := P) (some .ret) hheap2, _, _, _, _, _, hmt2, rfl, rfl, rfl, hset .done (some .ret), hR2.e, hR2.b⟩
    | exit id => exact ⟨_, _, run_endRound (P := P) (some (.exit id)) hheap2, _, _, _, _, _, hmt2, rfl, rfl, rfl, hset .done (some (.exit id)), hR2.e, hR2.b⟩
end Go.Sx

/- A function's contract, shown once in a small heap, at any heap. -/
set_option linter.unusedVariables false
set_option linter.unusedSimpArgs false
namespace Go.Sx
variable {P : Program} {F : Nat → Prop} {w0 w : World} {ρ : Nat → Loc} {n : Nat} {H : Hp} {tm : List (Nat × SV)} {a : Act} {C : Tab}
def SpecAt (P : Program) (f : Nat) (args : List SV) (H : Hp) (n : Nat) (v : SV) (H' : Hp) (n' : Nat) : Prop :=
  ∀ (F : Nat → Prop) (w0 w : World) (ρ : Nat → Loc) (xs : List Value), HRel F w0 ρ n H w → All2 (rel ρ) args xs → args.all (ltT n) = true →
    Calls P f xs.toArray w fun e w' => ∃ x ρ', e = .returned x ∧ rel ρ' v x ∧ ltT n' v = true ∧ HRel F w0 ρ' n' H' w' ∧ Ext n ρ ρ' ∧ n ≤ n'
def det (c : Ctr) : PT := fun l H n K => ob (c l H n) fun r => K r.1 r.2.1 r.2.2
theorem ctrOK_of {f : Nat} {c : Ctr} (h : ∀ args H n v H' n', c args H n = some (v, H', n') → SpecAt P f args H n v H' n') : CtrOK P f (det c) :=
  fun args H n K hc F w0 w ρ xs hH hz hl => by
    obtain ⟨⟨v, H', n'⟩, hr, hK⟩ := ob_elim hc
    refine (h args H n v H' n' hr F w0 w ρ xs hH hz hl).mono ?_
    rintro e w' ⟨x, ρ', rfl, h1, h2, h3, h4, h5⟩
    exact ⟨x, v, H', n', ρ', hK, rfl, h1, h2, h3, h4, h5⟩
theorem det_call {c : Ctr} {l : List SV} {H : Hp} {n : Nat} {K : SV → Hp → Nat → Prop} : callK (det c) l H n K = ob (c l H n) fun r => K r.1 r.2.1 r.2.2 := by
  apply propext
  constructor
  · rintro ⟨K0, h0, hk⟩
    exact ob_mono (fun r => hk _ _ _) h0
  · exact fun h => ⟨K, h, fun _ _ _ h => h⟩
theorem call_eq {C : Tab} {f : Nat} {c : Ctr} {l : List SV} {H H' : Hp} {n n' : Nat} {v : SV} (hC : C f = det c) (h : c l H n = some (v, H', n')) (K : SV → Hp → Nat → Prop) : callK (C f) l H n K = K v H' n' := by rw [hC, det_call, h]; rfl
def SpecK (P : Program) (f : Nat) : PT := fun args H n K => (∃ fn, P.funcs[f]? = some fn ∧ fn.body.isSome = true ∧ (fn.name != "runtime.NumGoroutine") = true) ∧
  ∀ (F : Nat → Prop) (w0 w : World) (ρ : Nat → Loc) (xs : List Value), HRel F w0 ρ n H w → All2 (rel ρ) args xs → args.all (ltT n) = true →
    Calls P f xs.toArray w fun e w' => ∃ x v H' n' ρ', K v H' n' ∧ e = .returned x ∧ rel ρ' v x ∧ ltT n' v = true ∧ HRel F w0 ρ' n' H' w' ∧ Ext n ρ ρ' ∧ n ≤ n'
theorem specK_ok {f : Nat} : CtrOK P f (SpecK P f) := fun args H n K hc F w0 w ρ xs hH hz hl => hc.2 F w0 w ρ xs hH hz hl
def SpecY (P : Program) (i : Nat) : PT := fun args H n K =>
  ∀ (F : Nat → Prop) (w0 w : World) (ρ : Nat → Loc) (xs : List Value) (b : Nat), HRel F w0 ρ n H w → All2 (rel ρ) args xs → args.all (ltT n) = true → (ρ i).blk = some b →
    ∃ f tmps as bd, (Instr.yield b xs.toArray).run P w = .ok (.round b f tmps as bd) w ∧ RoundIn (FW none) 0 P b f tmps as bd w fun e w' => ∃ x v H' n' ρ', K v H' n' ∧ e = .returned x ∧ rel ρ' v x ∧ ltT n' v = true ∧ HRel F w0 ρ' n' H' w' ∧ Ext n ρ ρ' ∧ n ≤ n'
theorem specY_ok {i : Nat} : YieldOK P i (SpecY P i) := fun args H n K hc F w0 w ρ xs b hH hz hl hb => hc F w0 w ρ xs b hH hz hl hb
theorem spec_of_vc {f : Nat} {m : MFn} {args : List SV} {v : SV} {H' : Hp} {n' : Nat} (hC : TabOK P C) (hE : Enters P C) (hL : LpsOK P C) (hmix : P.follows .mixedOrders = true) (hm : trFn P f = some m)
    (h : fnVC C m args H n fun v1 H1 n1 => Sub n ⟨[(0, v)], H', n'⟩ ⟨[(0, v1)], H1, n1⟩) : SpecAt P f args H n v H' n' := by
  intro F w0 w ρ xs hH hz hl
  refine (fn_sound hC hE hL hmix hm hH hz hl h).mono ?_
  rintro e w' ⟨x, v1, H1, n1, ρ1, hs, rfl, hr, hlt, hH1, hx, hn⟩
  obtain ⟨ρ', hR⟩ := hs.sound (N := 1) (ρ0 := ρ) (a := ⟨#[x], []⟩) hH.pos ⟨⟨F, w0, hH1, Sup.refl hH1, trivial⟩, ⟨⟨fun t u hu => by
    simp only [lk] at hu
    split at hu
    · rename_i e; subst e; cases hu; exact ⟨⟨x, rfl, hr⟩, hlt⟩
    · cases hu⟩, rfl, rfl⟩, hx, hn⟩
  obtain ⟨⟨y, hy, hry⟩, hly⟩ := hR.a.t.get 0 v rfl
  simp at hy; subst hy
  exact ⟨x, ρ', rfl, hry, hly, hR.h, hR.e, hR.b⟩
theorem idOK_zero (hn : 0 < n) : idOK n 0 = true := by unfold idOK; simp; omega
section
variable {m m' : Nat} {π : List (Nat × Nat)} (hπ : ∀ i, idOK m i = true → idOK m' (rn π i) = true)
include hπ
theorem ltA_ren {c : SV} (h : ltA m c = true) : ltA m' (c.renA π) = true := by
  cases c <;> simp only [SV.renA, ltA] at * <;> first | exact hπ _ h | exact h
theorem ltB_ren {c : SV} (h : ltB m c = true) : ltB m' (c.renB π) = true := by
  cases c
  case fn f caps =>
    simp only [SV.renB, ltB, List.all_map, List.all_eq_true] at *
    exact fun x hx => ltA_ren hπ (h x hx)
  all_goals first
    | rfl
    | exact hπ _ h
    | cases h
theorem ltC_ren {c : SV} (h : ltC m c = true) : ltC m' (c.renC π) = true := by
  cases c
  case agg cs =>
    simp only [SV.renC, ltC, List.all_map, List.all_eq_true] at *
    exact fun x hx => ltB_ren hπ (h x hx)
  case ai => rfl
  case fn f caps => exact ltB_ren hπ (c := .fn f caps) h
  all_goals first
    | rfl
    | exact hπ _ h
    | cases h
theorem ltT_ren {c : SV} (h : ltT m c = true) : ltT m' (c.ren π) = true := by
  cases c
  case tup cs =>
    simp only [SV.ren, ltT, List.all_map, List.all_eq_true] at *
    exact fun x hx => ltC_ren hπ (h x hx)
  case agg cs => exact ltC_ren hπ (c := .agg cs) h
  case ai => rfl
  case fn f caps => exact ltB_ren hπ (c := .fn f caps) h
  all_goals first
    | rfl
    | exact hπ _ h
    | cases h
theorem Body.lt_ren {b : Body} (h : b.lt m = true) : (b.ren π).lt m' = true := by
  rcases b with _ | _ | _ | _ | (_ | _ | _ | _)
  case mp.loop =>
    refine lt_loop.2 fun t v hv => ?_
    rw [lk_map, Option.map_eq_some_iff] at hv
    obtain ⟨v0, hv0, rfl⟩ := hv
    exact ltT_ren hπ (lt_loop.1 h t v0 hv0)
  all_goals
    simp only [Body.ren, Body.lt, List.all_map, List.all_eq_true] at *
    first
    | exact hπ _ h
    | skip
    try exact fun x hx => ltB_ren hπ (h x hx)
end
theorem objOK_ren' {π : List (Nat × Nat)} {l : Loc} {wr : Bool} {b : Body} : ObjOK (fun i => ρ (rn π i)) w l ⟨wr, b⟩ → ObjOK ρ w l ⟨wr, b.ren π⟩ := by
  have key : RowOK (fun i => ρ (rn π i)) w l wr b.cells → RowOK ρ w l wr (b.ren π).cells := by
    rw [cells_ren]
    unfold RowOK
    cases l.blk with
    | none => simp
    | some k =>
      rintro ⟨c, T, fr, h1, h2, h3, h4, h5⟩
      refine ⟨c, T, fr, h1, h2, by simpa using h3, fun j x hx => ?_, h5⟩
      rw [List.getElem?_map, Option.map_eq_some_iff] at hx
      obtain ⟨x0, hx0, rfl⟩ := hx
      obtain ⟨y, e, hr⟩ := h4 j x0 hx0
      exact ⟨y, e, crel_ren.2 hr⟩
  by_cases hm : ∀ es, b ≠ .mp es
  · intro h
    obtain ⟨h1, h2⟩ := h.row hm
    exact ObjOK.mk (ren_mp.2 hm) (key h1) (h2.to (isS_ren b) id)
  · rcases b with _ | _ | _ | _ | (_ | _ | _ | _) <;> first
      | exact id
      | (refine absurd (fun es => ?_) hm; simp; done)
      | (rintro ⟨k, h1, h2, h3⟩
         refine ⟨k, h1, h2, fun t v hv => ?_⟩
         rw [lk_map, Option.map_eq_some_iff] at hv
         obtain ⟨v0, hv0, rfl⟩ := hv
         obtain ⟨x, e1, e2⟩ := h3 t v0 hv0
         exact ⟨x, e1, rel_ren.2 e2⟩)
def SO.ren (π : List (Nat × Nat)) (o : SO) : SO := ⟨o.wr, o.b.ren π⟩
def newIds : Nat → Nat → Nat → List (Nat × Nat) → List (Nat × Nat)
  | 0, _, _, π => π
  | k + 1, i, n, π => (i, n) :: newIds k (i + 1) (n + 1) π
theorem newIds_lt : ∀ {k i n : Nat} {π : List (Nat × Nat)} {j : Nat}, j < i → rn (newIds k i n π) j = rn π j
  | 0, i, n, π, j, h => rfl
  | k + 1, i, n, π, j, h => by
    have := newIds_lt (k := k) (i := i + 1) (n := n + 1) (π := π) (j := j) (by omega)
    simp only [newIds, rn, lk] at this ⊢
    rw [if_neg (by omega)]; exact this
theorem newIds_ge : ∀ {k i n : Nat} {π : List (Nat × Nat)} {j : Nat}, i + k ≤ j → rn (newIds k i n π) j = rn π j
  | 0, i, n, π, j, h => rfl
  | k + 1, i, n, π, j, h => by
    have := newIds_ge (k := k) (i := i + 1) (n := n + 1) (π := π) (j := j) (by omega)
    simp only [newIds, rn, lk] at this ⊢
    rw [if_neg (by omega)]; exact this
theorem newIds_mid : ∀ {k i n : Nat} {π : List (Nat × Nat)} {j : Nat}, i ≤ j → j < i + k → rn (newIds k i n π) j = n + (j - i)
  | 0, i, n, π, j, h, h' => by omega
  | k + 1, i, n, π, j, h, h' => by
    by_cases e : j = i
    · subst e; simp [newIds, rn, lk]
    · have := newIds_mid (k := k) (i := i + 1) (n := n + 1) (π := π) (j := j) (by omega) (by omega)
      simp only [newIds, rn, lk] at this ⊢
      rw [if_neg (by omega), this]; omega
def wrAt (l : List (Nat × Option SO)) (i : Nat) : Bool := match lk l i with
  | some (some o) => o.wr
  | _ => false
def updOf (nc : Nat) (lc : List (Nat × Option SO)) (π : List (Nat × Nat)) : List (Nat × Option SO) → List (Nat × Option SO)
  | [] => []
  | (i, r) :: l => if decide (nc ≤ i) || wrAt lc i then (rn π i, r.map (SO.ren π)) :: updOf nc lc π l else updOf nc lc π l
theorem updOf_some {nc : Nat} {lc : List (Nat × Option SO)} {π : List (Nat × Nat)} {j : Nat} {r : Option SO} : ∀ {l : List (Nat × Option SO)}, lk (updOf nc lc π l) j = some r → ∃ i r0, lk l i = some r0 ∧ (nc ≤ i ∨ wrAt lc i = true) ∧ j = rn π i ∧ r = r0.map (SO.ren π)
  | [], h => by cases h
  | (i, r0) :: l, h => by
    simp only [updOf] at h
    have rest : lk (updOf nc lc π l) j = some r → (∀ k, (nc ≤ k ∨ wrAt lc k = true) → j = rn π k → k ≠ i) → ∃ k r1, lk ((i, r0) :: l) k = some r1 ∧ (nc ≤ k ∨ wrAt lc k = true) ∧ j = rn π k ∧ r = r1.map (SO.ren π) := fun h hne => by
      obtain ⟨k, r1, h1, h2, h3, h4⟩ := updOf_some h
      refine ⟨k, r1, ?_, h2, h3, h4⟩
      simp only [lk]; rw [if_neg (Ne.symm (hne k h2 h3))]; exact h1
    split at h
    · rename_i hc
      simp only [Bool.or_eq_true, decide_eq_true_eq] at hc
      simp only [lk] at h
      split at h
      · rename_i e; cases h; exact ⟨i, r0, by simp [lk], hc, e.symm, rfl⟩
      · rename_i hne
        exact rest h fun k _ e hk => hne (by rw [e, hk])
    · rename_i hc
      simp only [Bool.or_eq_true, decide_eq_true_eq] at hc
      exact rest h fun k hk _ e => hc (e ▸ hk)
theorem updOf_none {nc : Nat} {lc : List (Nat × Option SO)} {π : List (Nat × Nat)} {j : Nat} : ∀ {l : List (Nat × Option SO)}, lk (updOf nc lc π l) j = none → ∀ i r, (i, r) ∈ l → (nc ≤ i ∨ wrAt lc i = true) → rn π i ≠ j
  | [], h, i, r, hm, hc => by cases hm
  | (k, r0) :: l, h, i, r, hm, hc => by
    simp only [updOf] at h
    split at h
    · simp only [lk] at h
      split at h
      · cases h
      · rename_i hne
        rcases List.mem_cons.1 hm with e | hm
        · cases e; exact hne
        · exact updOf_none h i r hm hc
    · rename_i hcn
      simp only [Bool.or_eq_true, decide_eq_true_eq] at hcn
      rcases List.mem_cons.1 hm with e | hm
      · cases e; exact absurd hc hcn
      · exact updOf_none h i r hm hc
theorem lk_append {α : Type} {l m : List (Nat × α)} {i : Nat} : lk (l ++ m) i = match lk l i with
  | some r => some r
  | none => lk m i := by
  induction l with
  | nil => rfl
  | cons p r ih =>
    obtain ⟨k, v⟩ := p
    simp only [List.cons_append, lk]
    split <;> first | rfl | exact ih
def wrNZ (π : List (Nat × Nat)) : List (Nat × Option SO) → Bool
  | [] => true
  | (i, some o) :: r => (!o.wr || rn π i != 0) && wrNZ π r
  | (_, none) :: r => false
theorem wrNZ_mem {π : List (Nat × Nat)} : ∀ {l : List (Nat × Option SO)}, wrNZ π l = true → ∀ i r, (i, r) ∈ l → ∃ o, r = some o ∧ (o.wr = true → rn π i ≠ 0)
  | (k, some q) :: l, h, i, r, hm => by
    simp only [wrNZ, Bool.and_eq_true, Bool.or_eq_true, Bool.not_eq_true', bne_iff_ne] at h
    rcases List.mem_cons.1 hm with e | hm
    · cases e; exact ⟨q, rfl, fun hw => h.1.resolve_left (by simp [hw])⟩
    · exact wrNZ_mem h.2 i r hm
  | (k, none) :: l, h, i, r, hm => by cases h
def isShp (b : Body) : Bool := match b with
  | .mp (.shp _ _ _) => true
  | _ => false
def canon (nc nc' : Nat) (lc lc' : List (Nat × Option SO)) : Bool :=
  lc.all (fun p => !wrAt lc p.1 || (lk lc' p.1).isSome) &&
  lc'.all (fun p => decide (p.1 < nc') && (decide (p.1 < nc) || (match p.2 with
    | some o => o.wr || isShp o.b
    | none => true))) && decide (nc ≤ nc') && decide (nc' ≤ 1000)
theorem lk_none_of {α : Type} {l : List (Nat × α)} {i : Nat} (h : lk l i = none) {r : α} : (i, r) ∉ l := by
  induction l with
  | nil => simp
  | cons p q ih =>
    obtain ⟨k, v⟩ := p
    simp only [lk] at h
    split at h
    · cases h
    · rename_i hne
      intro hm
      rcases List.mem_cons.1 hm with e | hm
      · cases e; exact hne rfl
      · exact ih h hm
theorem liftD {f nc nc' : Nat} {argsc : List SV} {v : SV} {lc lc' : List (Nat × Option SO)} (hs : SpecAt P f argsc ⟨lc, H.x⟩ nc v ⟨lc', H.x⟩ nc') (π : List (Nat × Nat))
    (hcan : canon nc nc' lc lc' = true) (hdense : ∀ i, 0 < i → i < nc → (lk lc i).isSome = true ∨ idOK n (rn π i) = true) (hargs : argsc.all (ltT nc) = true) (hnc : 0 < nc) (hwf : wfHp nc lc = true)
    (hπ : okπ 1 π = true) (hsub : hpSub π H lc) (hap : apartB π lc lc = true) (hnz : wrNZ π lc = true) (hn : nc' - nc ≠ 0 → n + (nc' - nc) ≤ 1000) :
    SpecAt P f (argsc.map (SV.ren π)) H n (v.ren (newIds (nc' - nc) nc n π)) ⟨updOf nc lc (newIds (nc' - nc) nc n π) lc' ++ H.l, H.x⟩ (n + (nc' - nc)) := by
  intro F w0 w ρ xs hH hz hl
  simp only [canon, Bool.and_eq_true, decide_eq_true_eq] at hcan
  obtain ⟨⟨⟨hkeep, hnew⟩, hle⟩, h1000⟩ := hcan
  have hn0 := hH.pos
  have h1 : HRel F w0 (fun i => ρ (rn π i)) nc ⟨lc, H.x⟩ w := hH.rename π hπ rfl hsub hap hwf hnc (by omega) (by omega)
  -- what is written of the canonical objects
  have hwrit : ∀ i o, Hp.get ⟨lc, H.x⟩ i = some o → o.wr = true → lk lc i = some (some o) := fun i o hg hw => by
    unfold Hp.get at hg
    simp only at hg
    cases hk : lk lc i with
    | some r => rw [hk] at hg; simp only at hg; rw [hg]
    | none => rw [hk] at hg; simp only at hg; rw [(hH.xok i o hg).2.1] at hw; cases hw
  have hobj : ∀ i o, (i, some o) ∈ lc → o.wr = true → rn π i < 1000 ∧ ∃ o', H.get (rn π i) = some o' ∧ o'.wr = true := fun i o hm hw => by
    have h0 := hpSub_mem hsub i o hm
    obtain ⟨_, e, hnz'⟩ := wrNZ_mem hnz i _ hm
    cases e
    unfold objSub at h0
    rw [if_neg (hnz' hw)] at h0
    obtain ⟨o', q1, q2, q3⟩ := ob_elim h0.2
    exact ⟨h0.1 hw, o', q1, q2 hw⟩
  have hidn : ∀ i, 0 < i → i < nc → idOK n (rn π i) = true := fun i h0 hi => by
    have := hdense i h0 hi
    rw [Option.isSome_iff_exists] at this
    rcases this with ⟨r, h⟩ | h
    case inr => exact h
    · have hm := lk_mem h
      obtain ⟨o, e, _⟩ := wrNZ_mem hnz i _ hm
      subst e
      have h0 := hpSub_mem hsub i o hm
      unfold objSub at h0
      split at h0
      · rename_i e; rw [e]; exact idOK_zero hn0
      · obtain ⟨o', q1, q2, q3⟩ := ob_elim h0.2
        exact (hH.lt _ o' q1).1
  let Fc : Nat → Prop := fun b => b < w.heap.size ∧ ∀ i o, Hp.get ⟨lc, H.x⟩ i = some o → o.wr = true → (ρ (rn π i)).blk ≠ some b
  have hFF : ∀ b, F b → Fc b := fun b hb => ⟨Nat.lt_of_lt_of_le (hH.old b hb) hH.size, fun i o hg hw e => h1.own i o b hg hw e hb⟩
  have h2 : HRel Fc w (fun i => ρ (rn π i)) nc ⟨lc, H.x⟩ w :=
    { h1 with os := rfl, tape := rfl, output := rfl, size := Nat.le_refl _, shk := ShKeep.refl _, keep := fun _ _ => rfl, old := fun b hb => hb.1, own := fun i o b hg hw e hb => hb.2 i o hg hw e }
  have hz' : All2 (rel fun i => ρ (rn π i)) argsc xs := by
    rw [All2.map_left] at hz
    exact All2.mono (fun _ _ _ h => rel_ren.1 h) hz
  refine (hs Fc w w _ xs h2 hz' hargs).mono ?_
  rintro e w' ⟨x, ρc, rfl, hr, hlt, hc, hx, _⟩
  generalize hk : nc' - nc = k at hn ⊢
  have hk' : nc' = nc + k := by omega
  let ρ' : Nat → Loc := fun j => if idOK n j = true then ρ j else ρc (nc + (j - n))
  have hext : Ext n ρ ρ' := fun i hi => by show (if _ then _ else _) = _; rw [if_pos hi]
  have hρ : ∀ i, idOK n i = true → ρ' i = ρ i := hext
  have hA : Ext nc' ρc (fun i => ρ' (rn (newIds k nc n π) i)) := fun i hi => by
    show ρ' (rn (newIds k nc n π) i) = ρc i
    by_cases e1 : 1000 ≤ i
    · rw [newIds_ge (by omega), okπ_spec hπ i (.inr e1), hρ i (by unfold idOK; simp; omega), hx i (by unfold idOK; simp; omega)]
      show ρ i = ρ (rn π i)
      rw [okπ_spec hπ i (.inr e1)]
    · have hi' : i < nc' := by unfold idOK at hi; simp at hi; omega
      by_cases e2 : i < nc
      · rw [newIds_lt e2]
        have : idOK n (rn π i) = true := by
          by_cases e3 : i = 0
          · subst e3; rw [okπ_spec hπ 0 (.inl (by omega))]; exact idOK_zero hn0
          · exact hidn i (by omega) e2
        rw [hρ _ this, hx i (by unfold idOK; simp; omega)]
      · rw [newIds_mid (by omega) (by omega)]
        show (if _ then _ else _) = _
        have := hn (by omega)
        rw [if_neg (by unfold idOK; simp; omega)]
        congr 1; omega
  have hB : ∀ i, idOK nc' i = true → idOK (n + k) (rn (newIds k nc n π) i) = true := fun i hi => by
    by_cases e1 : 1000 ≤ i
    · rw [newIds_ge (by omega), okπ_spec hπ i (.inr e1)]; unfold idOK; simp; omega
    · have hi' : i < nc' := by unfold idOK at hi; simp at hi; omega
      by_cases e2 : i < nc
      · rw [newIds_lt e2]
        by_cases e3 : i = 0
        · subst e3; rw [okπ_spec hπ 0 (.inl (by omega))]; exact idOK_zero (by omega)
        · exact idOK_mono (by omega) (hidn i (by omega) e2)
      · rw [newIds_mid (by omega) (by omega)]; unfold idOK; simp; omega
  refine ⟨x, ρ', rfl, rel_ren.2 (rel_ext hA hlt hr), ltT_ren hB hlt, ?_, hext, by omega⟩
  -- the objects, mapped or as they were
  have hget : ∀ j s, Hp.get ⟨updOf nc lc (newIds k nc n π) lc' ++ H.l, H.x⟩ j = some s →
      (∃ i o, Hp.get ⟨lc', H.x⟩ i = some o ∧ lk lc' i = some (some o) ∧ (nc ≤ i ∨ wrAt lc i = true) ∧ j = rn (newIds k nc n π) i ∧ s = o.ren (newIds k nc n π)) ∨
      (H.get j = some s ∧ ∀ i, wrAt lc i = true → rn π i ≠ j) := fun j s hg => by
    unfold Hp.get at hg
    simp only [lk_append] at hg
    cases hu : lk (updOf nc lc (newIds k nc n π) lc') j with
    | some r =>
      rw [hu] at hg; simp only at hg; subst hg
      obtain ⟨i, r0, q1, q2, q3, q4⟩ := updOf_some hu
      cases r0 with
      | none => cases q4
      | some o =>
        simp only [Option.map_some, Option.some.injEq] at q4
        refine .inl ⟨i, o, ?_, q1, q2, q3, q4⟩
        unfold Hp.get; simp only [q1]
    | none =>
      rw [hu] at hg; simp only at hg
      refine .inr ⟨hg, fun i hi => ?_⟩
      obtain ⟨o, ho⟩ : ∃ o, lk lc i = some (some o) := by
        unfold wrAt at hi; split at hi
        · rename_i o e; exact ⟨o, e⟩
        · cases hi
      have hm := lk_mem ho
      have h3 := List.all_eq_true.1 hkeep _ hm
      simp only [hi, Bool.not_true, Bool.false_or, Option.isSome_iff_exists] at h3
      obtain ⟨r, hr⟩ := h3
      have h4 := updOf_none hu i r (lk_mem hr) (.inr hi)
      have hlt : i < nc := (wfHp_mem hwf i o hm).1
      rwa [newIds_lt hlt] at h4
  have hunm : ∀ j s, H.get j = some s → (∀ i, wrAt lc i = true → rn π i ≠ j) → ∀ b, (ρ j).blk = some b → Fc b := fun j s hg hu b hb => by
    refine ⟨hH.live j s b hg hb, fun i o hgi hw e => ?_⟩
    have hli := hwrit i o hgi hw
    obtain ⟨_, o', q1, q2⟩ := hobj i o (lk_mem hli) hw
    exact hH.inj (rn π i) j o' s b (hu i (by unfold wrAt; rw [hli]; exact hw)) q1 hg q2 e hb
  have hρc : ∀ i o, Hp.get ⟨lc', H.x⟩ i = some o → ρ' (rn (newIds k nc n π) i) = ρc i := fun i o hg => hA i (hc.lt i o hg).1
  refine ⟨hc.os.trans hH.os, hc.tape.trans hH.tape, hc.output.trans hH.output, Nat.le_trans hH.size hc.size, fun b hb => by rw [hc.keep b (hFF b hb), hH.keep b hb], hH.old, ?_, by omega, ?_, ?_, ?_, ?_, ?_, ?_, fun j T c b e1 e2 => by
    show ∃ (cs : Array Value) (fr : Nat × Nat), _
    by_cases hj : idOK n j = true
    · rw [hρ j hj] at e1 e2
      obtain ⟨cs, fr, e3, e4⟩ := hH.shp j T c b e1 e2
      obtain ⟨cs', fr', e5, e6⟩ := hc.shk b cs T fr e3
      exact ⟨cs', fr', e5, e6.trans e4⟩
    · have hj' : ρ' j = ρc (nc + (j - n)) := if_neg hj
      rw [hj'] at e1 e2
      exact hc.shp _ T c b e1 e2, hH.shk.trans hc.shk, hH.gl.same fun i hi => hρ i (by unfold idOK; rw [decide_eq_true hi, Bool.or_true])⟩
  · rw [hρ 0 (idOK_zero hn0)]; exact hH.nil
  · intro j s hg
    rcases hget j s hg with ⟨i, o, q1, q2, q3, q4, q5⟩ | ⟨q1, q2⟩
    · subst q4 q5
      rw [hρc i o q1]
      exact objOK_ren' (ObjOK.ext hA (hc.lt i o q1).2 (hc.obj i o q1))
    · rw [hρ j (hH.lt j s q1).1]
      exact ObjOK.ext hext (hH.lt j s q1).2 (ObjOK.world (fun b hb => hc.keep b (hunm j s q1 q2 b hb)) (hH.obj j s q1))
  · intro j s hg
    rcases hget j s hg with ⟨i, o, q1, q2, q3, q4, q5⟩ | ⟨q1, q2⟩
    · subst q4 q5
      exact ⟨hB i (hc.lt i o q1).1, Body.lt_ren hB (hc.lt i o q1).2⟩
    · exact ⟨idOK_mono (by omega) (hH.lt j s q1).1, Body.lt_mono (by omega) (hH.lt j s q1).2⟩
  · intro j s b hg hw hb hF
    rcases hget j s hg with ⟨i, o, q1, q2, q3, q4, q5⟩ | ⟨q1, q2⟩
    · subst q4 q5
      rw [hρc i o q1] at hb
      exact hc.own i o b q1 hw hb (hFF b hF)
    · rw [hρ j (hH.lt j s q1).1] at hb
      exact hH.own j s b q1 hw hb hF
  · intro j1 j2 s1 s2 b hij hg1 hg2 hw hb1 hb2
    rcases hget j1 s1 hg1 with ⟨i1, o1, q1, q2, q3, q4, q5⟩ | ⟨q1, q2⟩ <;> rcases hget j2 s2 hg2 with ⟨i2, o2, p1, p2, p3, p4, p5⟩ | ⟨p1, p2⟩
    · subst q4 q5 p4 p5
      rw [hρc i1 o1 q1] at hb1
      rw [hρc i2 o2 p1] at hb2
      exact hc.inj i1 i2 o1 o2 b (fun e => hij (by rw [e])) q1 p1 hw hb1 hb2
    · subst q4 q5
      rw [hρc i1 o1 q1] at hb1
      rw [hρ j2 (hH.lt j2 s2 p1).1] at hb2
      exact hc.own i1 o1 b q1 hw hb1 (hunm j2 s2 p1 p2 b hb2)
    · subst p4 p5
      rw [hρ j1 (hH.lt j1 s1 q1).1] at hb1
      rw [hρc i2 o2 p1] at hb2
      by_cases hw2 : o2.wr = true
      · exact hc.own i2 o2 b p1 hw2 hb2 (hunm j1 s1 q1 q2 b hb1)
      · have hlt2 : i2 < nc := by
          have := List.all_eq_true.1 hnew _ (lk_mem p2)
          simp only [Bool.and_eq_true, Bool.or_eq_true, decide_eq_true_eq] at this
          rcases this.2 with h | h | h
          · exact h
          · exact absurd h hw2
          · exfalso
            have ho := hc.obj i2 o2 p1
            obtain ⟨wr2, b2⟩ := o2
            unfold isShp at h
            split at h
            · rename_i i T c hb
              simp only at hb
              subst hb
              have ho' : (ρc i2).blk = none ∧ _ := ho
              rw [ho'.1] at hb2; cases hb2
            · cases h
        have hwa : wrAt lc i2 = true := p3.resolve_left (by omega)
        obtain ⟨o, ho, hw3⟩ : ∃ o, lk lc i2 = some (some o) ∧ o.wr = true := by
          unfold wrAt at hwa; split at hwa
          · rename_i o e; exact ⟨o, e, hwa⟩
          · cases hwa
        obtain ⟨_, o', r1, r2⟩ := hobj i2 o (lk_mem ho) hw3
        rw [hx i2 (by unfold idOK; simp; omega)] at hb2
        exact hH.inj j1 (rn π i2) s1 o' b (fun e => q2 i2 hwa e.symm) q1 r1 hw hb1 hb2
    · rw [hρ j1 (hH.lt j1 s1 q1).1] at hb1
      rw [hρ j2 (hH.lt j2 s2 p1).1] at hb2
      exact hH.inj j1 j2 s1 s2 b hij q1 p1 hw hb1 hb2
  · intro j s b hg hb
    rcases hget j s hg with ⟨i, o, q1, q2, q3, q4, q5⟩ | ⟨q1, q2⟩
    · subst q4 q5
      rw [hρc i o q1] at hb
      exact hc.live i o b q1 hb
    · rw [hρ j (hH.lt j s q1).1] at hb
      exact Nat.lt_of_lt_of_le (hH.live j s b q1 hb) hc.size
  · intro i s hg
    obtain ⟨g1, g2, g3, g4⟩ := hH.xok i s hg
    refine ⟨g1, g2, g3, ?_⟩
    simp only [lk_append, g4]
    cases hu : lk (updOf nc lc (newIds k nc n π) lc') i with
    | none => rfl
    | some r =>
      obtain ⟨i1, r0, q1, q2, q3, q4⟩ := updOf_some hu
      have hlt := List.all_eq_true.1 hnew _ (lk_mem q1)
      simp only [Bool.and_eq_true, decide_eq_true_eq] at hlt
      have hlt := hlt.1
      by_cases e2 : i1 < nc
      · have hwa : wrAt lc i1 = true := q2.resolve_left (by omega)
        obtain ⟨o, ho, hw3⟩ : ∃ o, lk lc i1 = some (some o) ∧ o.wr = true := by
          unfold wrAt at hwa; split at hwa
          · rename_i o e; exact ⟨o, e, hwa⟩
          · cases hwa
        have := (hobj i1 o (lk_mem ho) hw3).1
        rw [newIds_lt e2] at q3
        omega
      · rw [newIds_mid (by omega) (by omega)] at q3
        have := hn (by omega)
        omega
def dense (nc : Nat) (lc : List (Nat × Option SO)) : Bool := (List.range nc).all (fun i => i == 0 || (lk lc i).isSome)
theorem lift {f nc nc' : Nat} {argsc : List SV} {v : SV} {lc lc' : List (Nat × Option SO)} (hs : SpecAt P f argsc ⟨lc, H.x⟩ nc v ⟨lc', H.x⟩ nc') (π : List (Nat × Nat))
    (hcan : canon nc nc' lc lc' = true) (hd : dense nc lc = true) (hargs : argsc.all (ltT nc) = true) (hnc : 0 < nc) (hwf : wfHp nc lc = true)
    (hπ : okπ 1 π = true) (hsub : hpSub π H lc) (hap : apartB π lc lc = true) (hnz : wrNZ π lc = true) (hn : nc' - nc ≠ 0 → n + (nc' - nc) ≤ 1000) :
    SpecAt P f (argsc.map (SV.ren π)) H n (v.ren (newIds (nc' - nc) nc n π)) ⟨updOf nc lc (newIds (nc' - nc) nc n π) lc' ++ H.l, H.x⟩ (n + (nc' - nc)) :=
  liftD hs π hcan (fun i h0 hi => by
    have := List.all_eq_true.1 hd i (List.mem_range.2 hi)
    simp only [Bool.or_eq_true, beq_iff_eq] at this
    exact .inl (this.resolve_left (by omega))) hargs hnc hwf hπ hsub hap hnz hn
theorem rfEnd_mono {k : Nat} {tm : List (Nat × SV)} {K K' : Ex → St → Prop} (h : ∀ e s, K e s → K' e s) {v : SV} {H : Hp} {n : Nat} (hk : rfEnd k tm K v H n) : rfEnd k tm K' v H n := by
  unfold rfEnd at hk ⊢
  refine ob_mono (fun o hk => ⟨hk.1, ?_⟩) hk
  replace hk := hk.2
  split at hk
  · refine ⟨hk.1, ?_⟩
    replace hk := hk.2
    split at hk <;> first | exact h _ _ hk | exact hk.elim
  · exact hk.elim
theorem rfK_mono {C : Tab} {g : SV} {ps : List Nat} {N : Nat} {ma mb : MC} {s : St} {K K' : Ex → St → Prop} (h : ∀ e s, K e s → K' e s) (hk : rfK C g ps N ma mb s K) : rfK C g ps N ma mb s K' := by
  refine ⟨hk.1, fun L hL => ?_⟩
  replace hk := hk.2 L hL
  split at hk <;> first
    | exact callK_mono (fun _ _ _ => rfEnd_mono h) hk
    | exact hk.elim
end Go.Sx

/- The walk as rewriting. -/
set_option linter.unusedVariables false
set_option linter.unusedSimpArgs false
namespace Go.Sx
variable {C : Tab} {base : Nat} {tm : List (Nat × SV)} {H : Hp} {n : Nat}
@[congr] theorem c_ob {α : Type} {x y : Option α} {K : α → Prop} (h : x = y) : ob x K = ob y K := by rw [h]
@[congr] theorem c_vc {m : MC} {s : St} {K : Ex → St → Prop} : vc C base m s K = vc C base m s K := rfl
@[congr] theorem c_vcOps {m : List MOp} {K : List (Nat × SV) → Hp → Nat → Prop} : vcOps C m tm H n K = vcOps C m tm H n K := rfl
@[congr] theorem c_vcT {m : DT} {K : List (Nat × SV) → Hp → Nat → Prop} : vcT C m tm H n K = vcT C m tm H n K := rfl
@[congr] theorem c_V {m : MOp} {K : List (Nat × SV) → Hp → Nat → Prop} : V C m tm H n K = V C m tm H n K := rfl
@[congr] theorem c_sop {m : MO} {K : SV → Hp → Nat → Prop} : sop C tm H n m K = sop C tm H n m K := rfl
@[congr] theorem c_gd {v v' : SV} {w : Bool} {T E : Prop} (h : v = v') : gd v w T E = gd v' w T E := by rw [h]
@[congr] theorem c_ibin {op : BinOp} {k k' : IntKind} {x y : Int} {K : SV → Prop} : ibin op k x k' y K = ibin op k x k' y K := rfl
@[congr] theorem c_sbin {op : BinOp} {a b : SV} {K : SV → Prop} : sbin op a b K = sbin op a b K := rfl
@[congr] theorem c_sbinB {op : BinOp} {a b : SV} {K : SV → Prop} : sbinB op a b K = sbinB op a b K := rfl
@[congr] theorem c_sbinA {op : BinOp} {fs : List Nat} {a b : SV} {K : SV → Prop} : sbinA op fs a b K = sbinA op fs a b K := rfl
@[congr] theorem c_sbinP {op : BinOp} {a b : SV} {K : SV → Prop} : sbinP op a b K = sbinP op a b K := rfl
@[congr] theorem c_strbin {op : BinOp} {a b : ByteArray} {K : SV → Prop} : strbin op a b K = strbin op a b K := rfl
@[congr] theorem c_boolbin {op : BinOp} {a b : Bool} {K : SV → Prop} : boolbin op a b K = boolbin op a b K := rfl
@[congr] theorem c_ptrbin {op : BinOp} {a : Bool} {K : SV → Prop} : ptrbin op a K = ptrbin op a K := rfl
@[congr] theorem c_sun {op : UnOp} {a : SV} {K : SV → Prop} : sun op a K = sun op a K := rfl
@[congr] theorem c_asI {a : SV} {K : Int → Prop} : asI a K = asI a K := rfl
@[congr] theorem c_asB {a : SV} {K : Bool → Prop} : asB a K = asB a K := rfl
@[congr] theorem c_asS {a : SV} {K : ByteArray → Prop} : asS a K = asS a K := rfl
@[congr] theorem c_asP {a : SV} {K : Nat → Nat → Prop} : asP a K = asP a K := rfl
@[congr] theorem c_asSl {a : SV} {K : Nat → Nat → Nat → Nat → Prop} : asSl a K = asSl a K := rfl
@[congr] theorem c_asM {a : Body} {K : List (Value × Value) → Prop} : asM a K = asM a K := rfl
@[congr] theorem c_plV {a : SV} {K : Value → Prop} : plV a K = plV a K := rfl
@[congr] theorem c_mpOf {a : SV} {K : List (Value × Value) → Prop} : mpOf H a K = mpOf H a K := rfl
@[congr] theorem c_mpUp {a : SV} {K : Nat → List (Value × Value) → Prop} : mpUp H a K = mpUp H a K := rfl
@[congr] theorem c_asBy {a : Body} {K : List Int → Prop} : asBy a K = asBy a K := rfl
@[congr] theorem c_get {b b' : Body} {o o' : Nat} {K : SV → Prop} (h : b = b') (h2 : o = o') : b.get o K = b'.get o' K := by rw [h, h2]
@[congr] theorem c_getN {b b' : Body} {o o' m : Nat} {K : SV → Prop} (h : b = b') (h2 : o = o') : b.getN o m K = b'.getN o' m K := by rw [h, h2]
@[congr] theorem c_set {b b' : Body} {o o' : Nat} {a : SV} {K : Body → Prop} (h : b = b') (h2 : o = o') : b.set o a K = b'.set o' a K := by rw [h, h2]
@[congr] theorem c_setN {b b' : Body} {o o' m : Nat} {a : SV} {K : Body → Prop} (h : b = b') (h2 : o = o') : b.setN o m a K = b'.setN o' m a K := by rw [h, h2]
@[congr] theorem c_part {b b' : Body} {o o' m m' : Nat} {K : Body → Prop} (h : b = b') (h2 : o = o') (h3 : m = m') : b.part o m K = b'.part o' m' K := by rw [h, h2, h3]
@[congr] theorem c_cat {b b' c c' : Body} {K : Body → Prop} (h : b = b') (h2 : c = c') : b.cat c K = b'.cat c' K := by rw [h, h2]
@[congr] theorem c_over {b b' c c' : Body} {o o' : Nat} {K : Body → Prop} (h : b = b') (h2 : o = o') (h3 : c = c') : b.over o c K = b'.over o' c' K := by rw [h, h2, h3]
@[congr] theorem c_rowOf {i o m o' m' : Nat} {e : Body} {K : Body → Prop} (h2 : o = o') (h3 : m = m') : rowOf H i o m e K = rowOf H i o' m' e K := by rw [h2, h3]
@[congr] theorem c_freshR {b : Body} {T : Nat} {K : Hp → Nat → Prop} : freshR H n b T K = freshR H n b T K := rfl
@[congr] theorem c_freshT {b : Body} {T c : Nat} {K : Hp → Nat → Prop} : freshT H n b T c K = freshT H n b T c K := rfl
@[congr] theorem c_fresh {b : Body} {K : Hp → Nat → Prop} : fresh H n b K = fresh H n b K := rfl
@[congr] theorem c_fldOf {a a' : SV} {off m : Nat} {ag : Bool} {K : SV → Prop} (h : a = a') : fldOf a off m ag K = fldOf a' off m ag K := by rw [h]
@[congr] theorem c_bnd {x : Option MA} {d : Int} {K : Int → Prop} : bnd tm x d K = bnd tm x d K := rfl
@[congr] theorem c_rsv {r : MR} {K : SV → Prop} : rsv tm H r K = rsv tm H r K := rfl
@[congr] theorem c_rsvs {r : List MR} {K : SV → Prop} : rsvs tm H r K = rsvs tm H r K := rfl
@[congr] theorem c_notTup {v : SV} {K : Prop} : notTup v K = notTup v K := rfl
@[congr] theorem c_stab {m : MOp} {H' : Hp} : stab m tm H H' = stab m tm H H' := rfl
def kSeq (C : Tab) (base : Nat) (y : MC) (K : Ex → St → Prop) (e : Ex) (s : St) : Prop := match e with
  | .normal => vc C base y s K
  | e => K e s
def kBlock (id : Nat) (K : Ex → St → Prop) (e : Ex) (s : St) : Prop := match e with
  | .exit j => if j = id then K .normal s else K (.exit j) s
  | e => K e s
@[congr] theorem c_kSeq {y : MC} {K : Ex → St → Prop} {e : Ex} {s : St} : kSeq C base y K e s = kSeq C base y K e s := rfl
@[congr] theorem c_kBlock {id : Nat} {K : Ex → St → Prop} {e : Ex} {s : St} : kBlock id K e s = kBlock id K e s := rfl
theorem vc_skip {s : St} {K : Ex → St → Prop} : vc C base .skip s K = K .normal s := rfl
theorem vc_exit {s : St} {id : Nat} {K : Ex → St → Prop} : vc C base (.exit id) s K = K (.exit id) s := rfl
theorem vc_ret {s : St} {K : Ex → St → Prop} : vc C base .ret s K = K .ret s := rfl
theorem vc_seq {x y : MC} {s : St} {K : Ex → St → Prop} : vc C base (.seq x y) s K = vc C base x s (kSeq C base y K) := by
  rw [vc]; rfl
theorem vc_block {id : Nat} {b : MC} {s : St} {K : Ex → St → Prop} : vc C base (.block id b) s K = vc C base b s (kBlock id K) := by
  rw [vc]; rfl
theorem kSeq_normal {y : MC} {K : Ex → St → Prop} {s : St} : kSeq C base y K .normal s = vc C base y s K := rfl
theorem kSeq_exit {y : MC} {K : Ex → St → Prop} {s : St} {j : Nat} : kSeq C base y K (.exit j) s = K (.exit j) s := rfl
theorem kSeq_ret {y : MC} {K : Ex → St → Prop} {s : St} : kSeq C base y K .ret s = K .ret s := rfl
theorem kBlock_normal {id : Nat} {K : Ex → St → Prop} {s : St} : kBlock id K .normal s = K .normal s := rfl
theorem kBlock_exit {id j : Nat} {K : Ex → St → Prop} {s : St} : kBlock id K (.exit j) s = if j = id then K .normal s else K (.exit j) s := rfl
theorem kBlock_ret {id : Nat} {K : Ex → St → Prop} {s : St} : kBlock id K .ret s = K .ret s := rfl
theorem vc_reg {d : Bool} {ops : List MOp} {K : Ex → St → Prop} : vc C base (.reg d ops) ⟨tm, H, n⟩ K = vcOps C ops tm H n fun tm H n => K .normal ⟨tm, H, n⟩ := rfl
theorem vc_regD {T : DT} {K : Ex → St → Prop} : vc C base (.regD T) ⟨tm, H, n⟩ K = vcT C T tm H n fun tm H n => K .normal ⟨tm, H, n⟩ := rfl
@[congr] theorem c_callK {c c' : PT} {l : List SV} {K : SV → Hp → Nat → Prop} (h : c = c') : callK c l H n K = callK c' l H n K := by rw [h]
def condK (b : Bool) (S T : Prop) : Prop := (b = true → S) ∧ (b = false → T)
theorem vc_cond {c : MA} {x y : MC} {K : Ex → St → Prop} : vc C base (.cond c x y) ⟨tm, H, n⟩ K = ob (ev tm c) fun c => asB c fun b => condK b (vc C base x ⟨tm, H, n⟩ K) (vc C base y ⟨tm, H, n⟩ K) := rfl
@[congr] theorem c_condK {b b' : Bool} {S T : Prop} (h : b = b') : condK b S T = condK b' S T := by rw [h]
theorem condK_true {S T : Prop} : condK true S T = S := by simp [condK]
theorem condK_false {S T : Prop} : condK false S T = T := by simp [condK]
theorem condK_dec {p S T : Prop} [Decidable p] : condK (decide p) S T = ((p → S) ∧ (¬ p → T)) := by simp [condK]
theorem condK_not {b : Bool} {S T : Prop} : condK (!b) S T = condK b T S := by cases b <;> simp [condK]
theorem vc_loop {b : MC} {s : St} {K : Ex → St → Prop} : vc C base (.loop b) s K = Loops base (vc C base b) s K := rfl
@[congr] theorem c_Loops {body : St → (Ex → St → Prop) → Prop} {s : St} {K : Ex → St → Prop} : Loops base body s K = Loops base body s K := rfl
@[congr] theorem c_LoopU {body : St → (Ex → St → Prop) → Prop} {k : Nat} {s : St} {K : Ex → St → Prop} : LoopU base body k s K = LoopU base body k s K := rfl
def kLoop (base : Nat) {α : Type} (p : α → Prop) (I : α → St) (μ : α → Nat) (a : α) (K : Ex → St → Prop) (e : Ex) (s : St) : Prop := match e with
  | .normal => ∃ a', p a' ∧ μ a' < μ a ∧ Sub base (I a') s
  | e => K e s
@[congr] theorem c_kLoop {α : Type} {p : α → Prop} {I : α → St} {μ : α → Nat} {a : α} {K : Ex → St → Prop} {e : Ex} {s : St} : kLoop base p I μ a K e s = kLoop base p I μ a K e s := rfl
theorem kLoop_exit {α : Type} {p : α → Prop} {I : α → St} {μ : α → Nat} {a : α} {K : Ex → St → Prop} {j : Nat} {s : St} : kLoop base p I μ a K (.exit j) s = K (.exit j) s := rfl
theorem kLoop_ret {α : Type} {p : α → Prop} {I : α → St} {μ : α → Nat} {a : α} {K : Ex → St → Prop} {s : St} : kLoop base p I μ a K .ret s = K .ret s := rfl
theorem kLoop_mk {α : Type} {p : α → Prop} {I : α → St} {μ : α → Nat} {a : α} {K : Ex → St → Prop} {s : St} (a' : α) (h1 : p a') (h2 : μ a' < μ a) (h3 : Sub base (I a') s) : kLoop base p I μ a K .normal s := ⟨a', h1, h2, h3⟩
def kRoll (base : Nat) (body : St → (Ex → St → Prop) → Prop) (k : Nat) (K : Ex → St → Prop) (e : Ex) (s : St) : Prop := match e with
  | .normal => LoopU base body k s K
  | e => K e s
@[congr] theorem c_kRoll {body : St → (Ex → St → Prop) → Prop} {k : Nat} {K : Ex → St → Prop} {e : Ex} {s : St} : kRoll base body k K e s = kRoll base body k K e s := rfl
theorem kRoll_normal {body : St → (Ex → St → Prop) → Prop} {k : Nat} {K : Ex → St → Prop} {s : St} : kRoll base body k K .normal s = LoopU base body k s K := rfl
theorem kRoll_exit {body : St → (Ex → St → Prop) → Prop} {k j : Nat} {K : Ex → St → Prop} {s : St} : kRoll base body k K (.exit j) s = K (.exit j) s := rfl
theorem kRoll_ret {body : St → (Ex → St → Prop) → Prop} {k : Nat} {K : Ex → St → Prop} {s : St} : kRoll base body k K .ret s = K .ret s := rfl
theorem LoopU_succ {b : MC} {k : Nat} {s : St} {K : Ex → St → Prop} : LoopU base (vc C base b) (k + 1) s K = vc C base b s (kRoll base (vc C base b) k K) := by
  rw [LoopU]; rfl
theorem LoopU_mono {body : St → (Ex → St → Prop) → Prop} (hb : ∀ s (K K' : Ex → St → Prop), (∀ e s, K e s → K' e s) → body s K → body s K') {K K' : Ex → St → Prop} (h : ∀ e s, K e s → K' e s) : ∀ {k : Nat} {s : St}, LoopU base body k s K → LoopU base body k s K'
  | 0, s, ⟨α, I, μ, h0, hr⟩ => ⟨α, I, μ, h0, fun a => hb _ _ _ (fun e s' hk => by
      cases e with
      | normal => exact hk
      | exit j => exact h _ _ hk
      | ret => exact h _ _ hk) (hr a)⟩
  | k + 1, s, hv => hb _ _ _ (fun e s' hk => by
      cases e with
      | normal => exact LoopU_mono hb h hk
      | exit j => exact h _ _ hk
      | ret => exact h _ _ hk) hv
theorem vcOps_mono {K K' : List (Nat × SV) → Hp → Nat → Prop} (h : ∀ tm H n, K tm H n → K' tm H n) : ∀ {l : List MOp} {tm : List (Nat × SV)} {H : Hp} {n : Nat}, vcOps C l tm H n K → vcOps C l tm H n K'
  | [], tm, H, n, hv => h _ _ _ hv
  | o :: r, tm, H, n, hv => by
    have hv' : V C o tm H n fun tm H n => vcOps C r tm H n K := hv
    exact (V_mono (fun tm H n hk => vcOps_mono (l := r) h hk) hv' : V C o tm H n fun tm H n => vcOps C r tm H n K')
theorem vc_mono {m : MC} : ∀ {s : St} {K K' : Ex → St → Prop}, (∀ e s, K e s → K' e s) → vc C base m s K → vc C base m s K' := by
  induction m with
  | skip => exact fun h hv => h _ _ hv
  | regD T => exact fun h hv => vcT_mono (fun _ _ _ => h _ _) hv
  | reg d ops => exact fun h hv => vcOps_mono (fun _ _ _ => h _ _) hv
  | seq x y ihx ihy =>
    intro s K K' h hv
    refine ihx (fun e s' hk => ?_) hv
    cases e with
    | normal => exact ihy h hk
    | exit j => exact h _ _ hk
    | ret => exact h _ _ hk
  | cond c x y ihx ihy =>
    intro s K K' h hv
    exact ob_mono (fun c => asB_mono fun b hb => ⟨fun e => ihx h (hb.1 e), fun e => ihy h (hb.2 e)⟩) hv
  | block id b ih =>
    intro s K K' h hv
    refine ih (fun e s' hk => ?_) hv
    cases e with
    | normal => exact h _ _ hk
    | exit j =>
      simp only at hk ⊢
      split <;> rename_i c
      · rw [if_pos c] at hk; exact h _ _ hk
      · rw [if_neg c] at hk; exact h _ _ hk
    | ret => exact h _ _ hk
  | loop b ih =>
    rintro s K K' h ⟨k, hv⟩
    exact ⟨k, LoopU_mono (body := vc C base b) (fun s K K' => ih) h hv⟩
  | rangeF g ps N ma mb => exact fun h hv => ob_mono (fun g hk => rfK_mono h hk) hv
  | exit id => exact fun h hv => h _ _ hv
  | ret => exact fun h hv => h _ _ hv
theorem vcOps_nil {K : List (Nat × SV) → Hp → Nat → Prop} : vcOps C [] tm H n K = K tm H n := rfl
theorem vcOps_cons {o : MOp} {r : List MOp} {K : List (Nat × SV) → Hp → Nat → Prop} : vcOps C (o :: r) tm H n K = V C o tm H n fun tm H n => vcOps C r tm H n K := rfl
theorem V_none {d : Option Nat} {o : MO} {K : List (Nat × SV) → Hp → Nat → Prop} : V C ⟨d, o, none⟩ tm H n K = sop C tm H n o fun v H' n' => K (put tm d v) H' n' := rfl
theorem V_some {d : Option Nat} {o : MO} {t : Nat} {want : Bool} {K : List (Nat × SV) → Hp → Nat → Prop} : V C ⟨d, o, some (t, want)⟩ tm H n K = ob (lk tm t) fun g => gd g want (sop C tm H n o fun v H' n' => K (put tm d v) H' n') (K (put tm d (.v undef)) H n) := rfl
theorem gd_bool {b want : Bool} {T E : Prop} : gd (.v (.bool b)) want T E = condK (b == want) T E := by
  cases b <;> cases want <;> simp [gd, condK]
theorem gd_undef {want : Bool} {T E : Prop} : gd (.v undef) want T E = E := rfl
theorem put_some {d : Nat} {v : SV} : put tm (some d) v = (d, v) :: tm := rfl
theorem put_none {v : SV} : put tm none v = tm := rfl
theorem vcT_fin {K : List (Nat × SV) → Hp → Nat → Prop} : vcT C .fin tm H n K = K tm H n := rfl
theorem vcT_pure {o : MOp} {r : DT} {K : List (Nat × SV) → Hp → Nat → Prop} : vcT C (.pure o r) tm H n K = V C o tm H n fun tm' H' n' => vcT C r tm' H' n' K := rfl
theorem vcT_act {o : MOp} {chk : List MOp} {r : DT} {K : List (Nat × SV) → Hp → Nat → Prop} : vcT C (.act o chk r .stop) tm H n K = V C o tm H n fun tm' H' n' => stabM chk tm H H' ∧ vcT C r tm' H' n' K := by
  simp [vcT]
theorem vcT_acts {o : MOp} {chk : List MOp} {r os : DT} {K : List (Nat × SV) → Hp → Nat → Prop} : vcT C (.act o chk r os) tm H n K = ((V C o tm H n fun tm' H' n' => stabM chk tm H H' ∧ vcT C r tm' H' n' K) ∧ vcT C os tm H n K) := rfl
theorem vcT_stop {K : List (Nat × SV) → Hp → Nat → Prop} : vcT C .stop tm H n K = True := rfl
theorem stab_none {d : Option Nat} {o : MO} {H' : Hp} : stab ⟨d, o, none⟩ tm H H' = stabO tm H H' o := rfl
theorem stab_some {d : Option Nat} {o : MO} {t : Nat} {want : Bool} {H' : Hp} : stab ⟨d, o, some (t, want)⟩ tm H H' = ob (lk tm t) fun g => gd g want (stabO tm H H' o) True := rfl
theorem stabM_nil {H' : Hp} : stabM [] tm H H' = True := rfl
theorem stabM_cons {m : MOp} {r : List MOp} {H' : Hp} : stabM (m :: r) tm H H' = (stab m tm H H' ∧ stabM r tm H H') := rfl
theorem stabO_ld {x : MA} {H' : Hp} : stabO tm H H' (.ld x) = ob (ev tm x) fun a => asP a fun i _ => H'.get i = H.get i := rfl
theorem stabO_ldn {x : MA} {m : Nat} {H' : Hp} : stabO tm H H' (.ldn x m) = ob (ev tm x) fun a => asP a fun i _ => H'.get i = H.get i := rfl
theorem stabO_slP {x : MA} {lo hi : Option MA} {m z : Nat} {H' : Hp} : stabO tm H H' (.slP x lo hi m z) = ob (ev tm x) fun a => asP a fun i _ => H'.get i = H.get i := rfl
theorem stabO_b2s {x : MA} {H' : Hp} : stabO tm H H' (.b2s x) = ob (ev tm x) fun a => asSl a fun i _ _ _ => H'.get i = H.get i := rfl
theorem fldOf_ai {k : IntKind} {ys : List Int} {off m : Nat} {K : SV → Prop} : fldOf (.ai k ys) off m false K = (off < ys.length ∧ K (.v (.int k (ys.getD off 0)))) := rfl
theorem fldOf_agg {cs : List SV} {off m : Nat} {K : SV → Prop} : fldOf (.agg cs) off m false K = ob cs[off]? K := rfl
theorem fldOf_ait {k : IntKind} {ys : List Int} {off m : Nat} {K : SV → Prop} : fldOf (.ai k ys) off m true K = (off + m ≤ ys.length ∧ K (.ai k ((ys.drop off).take m))) := rfl
theorem fldOf_aggt {cs : List SV} {off m : Nat} {K : SV → Prop} : fldOf (.agg cs) off m true K = (off + m ≤ cs.length ∧ K (.agg ((cs.drop off).take m))) := rfl
theorem intsOf_nil {k : IntKind} : intsOf k [] = some [] := rfl
theorem intsOf_cons {k : IntKind} {x : Int} {l : List SV} : intsOf k (.v (.int k x) :: l) = (intsOf k l).map (x :: ·) := by simp [intsOf]
theorem strsOf_nil : strsOf [] = some [] := rfl
theorem strsOf_cons {x : ByteArray} {l : List SV} : strsOf (.v (.string x) :: l) = (strsOf l).map (x :: ·) := rfl
theorem c_omap {α β : Type} {a : α} {g : α → β} : (some a).map g = some (g a) := rfl
theorem ob_if {α : Type} {c : Prop} [Decidable c] {a : α} {K : α → Prop} : ob (if c then some a else none) K = (c ∧ K a) := by
  split <;> simp [ob, *]
theorem lk_nil {α : Type} {t : Nat} : lk ([] : List (Nat × α)) t = none := rfl
theorem lk_cons {α : Type} {k t : Nat} {v : α} {r : List (Nat × α)} : lk ((k, v) :: r) t = if k = t then some v else lk r t := rfl
theorem ev_t {t : Nat} : ev tm (.t t) = lk tm t := rfl
theorem ev_k {c : SV} : ev tm (.k c) = some c := rfl
theorem z_mov {x : MA} {K : SV → Hp → Nat → Prop} : sop C tm H n (.mov x) K = ob (ev tm x) fun a => K a H n := rfl
theorem z_pick {c a b : MA} {K : SV → Hp → Nat → Prop} : sop C tm H n (.pick c a b) K = ob (ev tm c) fun c => asB c fun t => condK t (ob (ev tm a) fun a => K a H n) (ob (ev tm b) fun a => K a H n) := by
  simp only [sop]; congr 1; funext c; congr 1; funext t; cases t <;> simp [condK]
theorem z_bin {op : BinOp} {x y : MA} {K : SV → Hp → Nat → Prop} : sop C tm H n (.bin op x y) K = ob (ev tm x) fun a => ob (ev tm y) fun b => sbin op a b fun c => K c H n := rfl
theorem z_binA {op : BinOp} {x y : MA} {fs : List Nat} {K : SV → Hp → Nat → Prop} : sop C tm H n (.binA op x y fs) K = ob (ev tm x) fun a => ob (ev tm y) fun b => sbinA op fs a b fun c => K c H n := rfl
theorem z_binB {op : BinOp} {x y : MA} {K : SV → Hp → Nat → Prop} : sop C tm H n (.binB op x y) K = ob (ev tm x) fun a => ob (ev tm y) fun b => sbinB op a b fun c => K c H n := rfl
theorem z_binP {op : BinOp} {x y : MA} {K : SV → Hp → Nat → Prop} : sop C tm H n (.binP op x y) K = ob (ev tm x) fun a => ob (ev tm y) fun b => sbinP op a b fun c => K c H n := rfl
theorem z_un {op : UnOp} {x : MA} {K : SV → Hp → Nat → Prop} : sop C tm H n (.un op x) K = ob (ev tm x) fun a => sun op a fun c => K c H n := rfl
theorem z_r2s {x : MA} {K : SV → Hp → Nat → Prop} : sop C tm H n (.r2s x) K = ob (ev tm x) fun a => asI a fun x => K (.v (.string (Utf8.encode x))) H n := rfl
theorem z_conv {k : IntKind} {x : MA} {K : SV → Hp → Nat → Prop} : sop C tm H n (.conv k x) K = ob (ev tm x) fun a => asI a fun x => K (.v (.int k (k.wrap x))) H n := rfl
theorem z_s2b {x : MA} {K : SV → Hp → Nat → Prop} : sop C tm H n (.s2b x) K = ob (ev tm x) fun a => asS a fun s => s.size ≤ 140737488355328 ∧ fresh H n (.ints .u8 (bts s)) fun H' n' => K (.sl n 0 s.size 1) H' n' := rfl
theorem z_b2s {x : MA} {K : SV → Hp → Nat → Prop} : sop C tm H n (.b2s x) K = ob (ev tm x) fun a => asSl a fun i o m z => (i ≠ 0 → z = 1) ∧ rowOf H i o m (.ints .u8 []) fun b => asBy b fun ys => K (.v (.string (tx ys))) H n := rfl
theorem z_mkM {K : SV → Hp → Nat → Prop} : sop C tm H n .mkM K = fresh H n (.mp (.map [])) fun H' n' => K (.mp n) H' n' := rfl
theorem z_luM {x k : MA} {z : Value} {ok : Bool} {K : SV → Hp → Nat → Prop} : sop C tm H n (.luM x k z ok) K = ob (ev tm x) fun a => ob (ev tm k) fun b => asS b fun s => mpOf H a fun es => keysS es = true ∧ K (luV (luS es s) z ok) H n := rfl
theorem z_upM {x k y : MA} {K : SV → Hp → Nat → Prop} : sop C tm H n (.upM x k y) K = ob (ev tm x) fun a => ob (ev tm k) fun b => ob (ev tm y) fun c => asS b fun s => plV c fun y => mpUp H a fun i es => keysS es = true ∧ K (.v undef) (H.put i ⟨true, .mp (.map (upS es s y))⟩) n := rfl
def lenMk (H : Hp) (a : SV) (K : SV → Prop) : Prop := match a with
  | .v (.map none) => K (.v (.int .i64 0))
  | .mp i => ob (H.get i) fun s => asM s.b fun es => K (.v (.int .i64 es.length))
  | _ => False
theorem z_lenM {x : MA} {K : SV → Hp → Nat → Prop} : sop C tm H n (.lenM x) K = ob (ev tm x) fun a => lenMk H a fun v => K v H n := rfl
theorem lenMk_mp {i : Nat} {K : SV → Prop} : lenMk H (.mp i) K = ob (H.get i) fun o => asM o.b fun es => K (.v (.int .i64 es.length)) := rfl
theorem lenMk_nil {K : SV → Prop} : lenMk H (.v (.map none)) K = K (.v (.int .i64 0)) := rfl
theorem plsOf_v {a : Value} {cs : List SV} : plsOf (.v a :: cs) = (plsOf cs).map (a :: ·) := rfl
theorem z_delM {x k : MA} {K : SV → Hp → Nat → Prop} : sop C tm H n (.delM x k) K = ob (ev tm x) fun a => ob (ev tm k) fun b => asS b fun s => mpUp H a fun i es => keysS es = true ∧ K (.tup []) (H.put i ⟨true, .mp (.map (dlS es s))⟩) n := rfl
theorem asM_so {wr : Bool} {es : List (Value × Value)} {K : List (Value × Value) → Prop} : asM (SO.b ⟨wr, .mp (.map es)⟩) K = K es := rfl
theorem plV_v {y : Value} {K : Value → Prop} : plV (.v y) K = K y := rfl
theorem plV_agg {cs : List SV} {K : Value → Prop} : plV (.agg cs) K = ob (plsOf cs) fun xs => K (.agg xs.toArray) := rfl
theorem mpOf_mp {i : Nat} {K : List (Value × Value) → Prop} : mpOf H (.mp i) K = ob (H.get i) fun o => asM o.b K := rfl
theorem mpOf_nil {K : List (Value × Value) → Prop} : mpOf H (.v (.map none)) K = K [] := rfl
theorem mpUp_mp {i : Nat} {K : Nat → List (Value × Value) → Prop} : mpUp H (.mp i) K = ob (H.get i) fun o => o.wr = true ∧ asM o.b fun es => K i es := rfl
theorem asM_mp {es : List (Value × Value)} {K : List (Value × Value) → Prop} : asM (.mp (.map es)) K = K es := rfl
theorem luV_ok {r : Option Value} {z : Value} : luV r z true = .tup [elemSV (r.getD z), .v (.bool r.isSome)] := rfl
theorem luV_v {r : Option Value} {z : Value} : luV r z false = elemSV (r.getD z) := rfl
theorem z_allocT {b : Body} {T c : Nat} {K : SV → Hp → Nat → Prop} : sop C tm H n (.allocT b T c) K = freshT H n b T c fun H' n' => K (.ptr n 0) H' n' := rfl
def aggOf (a : SV) (K : List SV → Prop) : Prop := match a with
  | .agg cs => K cs
  | _ => False
theorem aggOf_mk {cs : List SV} {K : List SV → Prop} : aggOf (.agg cs) K = K cs := rfl
@[congr] theorem c_aggOf {a : SV} {K : List SV → Prop} : aggOf a K = aggOf a K := rfl
theorem z_boxT {x : MA} {T : Nat} {K : SV → Hp → Nat → Prop} : sop C tm H n (.boxT x T) K = ob (ev tm x) fun a => aggOf a fun cs => freshT H n (.sv cs) T cs.length fun H' n' => K (.ptr n 0) H' n' := rfl
theorem z_alloc {b : Body} {K : SV → Hp → Nat → Prop} : sop C tm H n (.alloc b) K = fresh H n b fun H' n' => K (.ptr n 0) H' n' := rfl
theorem z_bld {zero : List SV} {parts : List (Nat × Nat × MA)} {K : SV → Hp → Nat → Prop} : sop C tm H n (.bld zero parts) K = ob (evq tm zero.length parts) fun ps => K (.agg (fillS zero ps)) H n := rfl
theorem z_bldI {k : IntKind} {m : Nat} {parts : List (Nat × MA)} {K : SV → Hp → Nat → Prop} : sop C tm H n (.bldI k m parts) K = ob (evp tm parts) fun ps => ob (fillI k (List.replicate m 0) ps) fun ys => K (.ai k ys) H n := rfl
theorem z_rowI {k : IntKind} {xs : List MA} {K : SV → Hp → Nat → Prop} : sop C tm H n (.rowI k xs) K = ob (evs tm xs) fun l => ob (intsOf k l) fun ys => fresh H n (.ints k ys) fun H' n' => K (.sl n 0 ys.length 1) H' n' := rfl
theorem z_rowS {xs : List MA} {K : SV → Hp → Nat → Prop} : sop C tm H n (.rowS xs) K = ob (evs tm xs) fun l => ob (strsOf l) fun ys => fresh H n (.strs ys) fun H' n' => K (.sl n 0 ys.length 1) H' n' := rfl
theorem z_ld {x : MA} {K : SV → Hp → Nat → Prop} : sop C tm H n (.ld x) K = ob (ev tm x) fun a => asP a fun i o => ob (H.get i) fun s => s.b.get o fun c => K c H n := rfl
theorem z_ldn {x : MA} {m : Nat} {K : SV → Hp → Nat → Prop} : sop C tm H n (.ldn x m) K = ob (ev tm x) fun a => asP a fun i o => ob (H.get i) fun s => s.b.getN o m fun c => K c H n := rfl
theorem z_st {x a : MA} {K : SV → Hp → Nat → Prop} : sop C tm H n (.st x a) K = ob (ev tm x) fun p => ob (ev tm a) fun a => asP p fun i o => ob (H.get i) fun s => s.wr = true ∧ s.b.set o a fun b => K (.v undef) (H.put i ⟨true, b⟩) n := rfl
theorem z_stn {x a : MA} {m : Nat} {K : SV → Hp → Nat → Prop} : sop C tm H n (.stn x a m) K = ob (ev tm x) fun p => ob (ev tm a) fun a => asP p fun i o => ob (H.get i) fun s => s.wr = true ∧ s.b.setN o m a fun b => K (.v undef) (H.put i ⟨true, b⟩) n := rfl
def asN (a : SV) (K : SV → Prop) : Prop := match a with
  | .ptr i o => K (.ptr i o)
  | .fn f c => K (.fn f c)
  | .v (.func (.func f) a c) => K (.v (.func (.func f) a c))
  | _ => False
@[congr] theorem c_asN {a : SV} {K : SV → Prop} : asN a K = asN a K := rfl
theorem asN_ptr {i o : Nat} {K : SV → Prop} : asN (.ptr i o) K = K (.ptr i o) := rfl
theorem asN_fn {f : Nat} {c : List SV} {K : SV → Prop} : asN (.fn f c) K = K (.fn f c) := rfl
theorem z_nilck {x : MA} {K : SV → Hp → Nat → Prop} : sop C tm H n (.nilck x) K = ob (ev tm x) fun a => asN a fun c => K c H n := by
  simp only [sop]; rfl
theorem z_fld {x : MA} {off m : Nat} {ag : Bool} {K : SV → Hp → Nat → Prop} : sop C tm H n (.fld x off m ag) K = ob (ev tm x) fun a => fldOf a off m ag fun c => K c H n := rfl
theorem z_fadr {x : MA} {off : Nat} {K : SV → Hp → Nat → Prop} : sop C tm H n (.fadr x off) K = ob (ev tm x) fun a => asP a fun i o => K (.ptr i (o + off)) H n := rfl
theorem z_idxA {x i : MA} {z : Nat} {K : SV → Hp → Nat → Prop} : sop C tm H n (.idxA x i z) K = ob (ev tm x) fun a => ob (ev tm i) fun j => asSl a fun i o m z' => asI j fun j => z' = z ∧ (0 ≤ j ∧ j < m) ∧ K (.ptr i (o + j.toNat * z)) H n := rfl
theorem z_idxP {x i : MA} {m z : Nat} {K : SV → Hp → Nat → Prop} : sop C tm H n (.idxP x i m z) K = ob (ev tm x) fun a => ob (ev tm i) fun j => asP a fun i o => asI j fun j => (0 ≤ j ∧ j < m) ∧ K (.ptr i (o + j.toNat * z)) H n := rfl
theorem z_idxS {x i : MA} {K : SV → Hp → Nat → Prop} : sop C tm H n (.idxS x i) K = ob (ev tm x) fun a => ob (ev tm i) fun j => asS a fun s => asI j fun j => (0 ≤ j ∧ j < s.size) ∧ K (.v (.int .u8 ((bts s).getD j.toNat 0))) H n := rfl
theorem z_idxV {x i : MA} {m : Nat} {K : SV → Hp → Nat → Prop} : sop C tm H n (.idxV x i m) K = ob (ev tm x) fun a => ob (ev tm i) fun j => asI j fun j => (0 ≤ j ∧ j < m) ∧ fldOf a j.toNat 1 false fun c => K c H n := rfl
theorem z_slS {x : MA} {lo hi : Option MA} {K : SV → Hp → Nat → Prop} : sop C tm H n (.slS x lo hi) K = ob (ev tm x) fun a => asS a fun s => bnd tm hi s.size fun h => bnd tm lo 0 fun l => (0 ≤ l ∧ l ≤ h ∧ h ≤ s.size) ∧ K (.v (.string (s.extract l.toNat h.toNat))) H n := rfl
theorem z_slL {x : MA} {lo hi : Option MA} {z : Nat} {K : SV → Hp → Nat → Prop} : sop C tm H n (.slL x lo hi z) K = ob (ev tm x) fun a => asSl a fun i o m z' => z' = z ∧ bnd tm hi m fun h => bnd tm lo 0 fun l => (0 ≤ l ∧ l ≤ h ∧ h ≤ m) ∧ K (.sl i (o + l.toNat * z) (h.toNat - l.toNat) z) H n := rfl
theorem z_slP {x : MA} {lo hi : Option MA} {m z : Nat} {K : SV → Hp → Nat → Prop} : sop C tm H n (.slP x lo hi m z) K = ob (ev tm x) fun a => asP a fun i o => ob (H.get i) fun s => 0 < m * z ∧ (o + m * z ≤ s.b.cells.length) ∧ s.b.loose ∧ bnd tm hi m fun h => bnd tm lo 0 fun l => (0 ≤ l ∧ l ≤ h ∧ h ≤ m) ∧ K (.sl i (o + l.toNat * z) (h.toNat - l.toNat) z) H n := rfl
theorem z_mk {zero : Body} {l c : MA} {z by_ : Nat} {K : SV → Hp → Nat → Prop} : sop C tm H n (.mk zero l c z by_) K = ob (ev tm l) fun l => ob (ev tm c) fun c => asI l fun l => asI c fun c => (0 ≤ l ∧ l ≤ c ∧ c ≤ 140737488355328 ∧ by_ * c ≤ 140737488355328) ∧ fresh H n (zero.reps c.toNat) fun H' n' => K (.sl n 0 l.toNat z) H' n' := rfl
theorem z_lenS {x : MA} {K : SV → Hp → Nat → Prop} : sop C tm H n (.lenS x) K = ob (ev tm x) fun a => asS a fun s => K (.v (.int .i64 s.size)) H n := rfl
theorem z_lenL {x : MA} {K : SV → Hp → Nat → Prop} : sop C tm H n (.lenL x) K = ob (ev tm x) fun a => asSl a fun _ _ m _ => K (.v (.int .i64 m)) H n := rfl
theorem z_app {x y : MA} {e : Body} {z by_ : Nat} {K : SV → Hp → Nat → Prop} : sop C tm H n (.app x y e z by_) K = ob (ev tm x) fun a => ob (ev tm y) fun b => asSl a fun i o m z1 => asSl b fun j p q z2 => (i ≠ 0 → z1 = z) ∧ (j ≠ 0 → z2 = z) ∧ wrOf H i ∧
      (m + q) * by_ ≤ 140737488355328 ∧ (m + q ≤ 140737488355328) ∧ rowOf H i o (m * z) e fun b1 => rowOf H j p (q * z) e fun b2 => b2.ones ∧ appC H n i o m q z e b1 b2 K := rfl
@[congr] theorem c_appC {i o m q z : Nat} {e b1 b2 : Body} {K : SV → Hp → Nat → Prop} : appC H n i o m q z e b1 b2 K = appC H n i o m q z e b1 b2 K := rfl
@[congr] theorem c_appS {A B D : Prop} : appS A B D = appS A B D := rfl
theorem appC_ints {i o m q z : Nat} {k : IntKind} {l : List Int} {b1 b2 : Body} {K : SV → Hp → Nat → Prop} : appC H n i o m q z (.ints k l) b1 b2 K = b1.cat b2 fun b => fresh (H.kill i) n b fun H' n' => K (.sl n 0 (m + q) z) H' n' := rfl
theorem appC_pl {i o m q z : Nat} {l : List Value} {b1 b2 : Body} {K : SV → Hp → Nat → Prop} : appC H n i o m q z (.pl l) b1 b2 K = b1.cat b2 fun b => fresh (H.kill i) n b fun H' n' => K (.sl n 0 (m + q) z) H' n' := rfl
theorem appC_sv {i o m q z : Nat} {l : List SV} {b1 b2 : Body} {K : SV → Hp → Nat → Prop} : appC H n i o m q z (.sv l) b1 b2 K = b1.cat b2 fun b => fresh (H.kill i) n b fun H' n' => K (.sl n 0 (m + q) z) H' n' := rfl
theorem appC_strs {i o m q z : Nat} {l : List ByteArray} {b1 b2 : Body} {K : SV → Hp → Nat → Prop} : appC H n i o m q z (.strs l) b1 b2 K = if i = 0 then (b1.cat b2 fun b => fresh (H.kill i) n b fun H' n' => K (.sl n 0 (m + q) z) H' n') else appS (b1.cat b2 fun b => fresh (H.kill i) n b fun H' n' => K (.sl n 0 (m + q) z) H' n')
      (ob (H.get i) fun s => 0 < q ∧ s.b.isS = true ∧ o + (m + q) * z ≤ s.b.cells.length ∧ s.b.over (o + m * z) b2 fun b => K (.sl i o (m + q) z) (H.put i ⟨true, b⟩) n)
      (ob (H.get i) fun s => 0 < q ∧ o + m * z = s.b.cells.length ∧ n < 1000 ∧ b1.cat b2 fun b => K (.sl n 0 (m + q) z) ((H.put i ⟨false, s.b⟩).put n ⟨false, b⟩) (n + 1)) := rfl
theorem isS_strs {l : List ByteArray} : (Body.strs l).isS = true := rfl
theorem loose_ints {k : IntKind} {l : List Int} : (Body.ints k l).loose = True := rfl
theorem loose_pl {l : List Value} : (Body.pl l).loose = True := rfl
theorem loose_sv {l : List SV} : (Body.sv l).loose = True := rfl
theorem z_slM {x hi mx : MA} {lo : Option MA} {z : Nat} {K : SV → Hp → Nat → Prop} : sop C tm H n (.slM x lo hi mx z) K = ob (ev tm x) fun a => asSl a fun i o m z' => z' = z ∧ ob (ev tm mx) fun c => asI c fun c => ob (ev tm hi) fun h => asI h fun h => bnd tm lo 0 fun l => (0 ≤ l ∧ l ≤ h ∧ h ≤ c ∧ c ≤ m) ∧ ob (H.get i) fun s => s.b.loose ∧ K (.sl i (o + l.toNat * z) (h.toNat - l.toNat) z) H n := rfl
def callvK (C : Tab) (g : SV) (l : List SV) (H : Hp) (n : Nat) (K : SV → Hp → Nat → Prop) : Prop := match g with
  | .fn f caps => callK (C f) (l ++ caps) H n K
  | .v (.func (.func f) ⟨[]⟩ ⟨[]⟩) => callK (C f) l H n K
  | .yl i => callK (C.y i) l H n K
  | _ => False
@[congr] theorem c_callvK {g g' : SV} {l l' : List SV} {K : SV → Hp → Nat → Prop} (h : g = g') (h2 : l = l') : callvK C g l H n K = callvK C g' l' H n K := by rw [h, h2]
theorem z_callv {g : MA} {args : List MA} {K : SV → Hp → Nat → Prop} : sop C tm H n (.callv g args) K = ob (ev tm g) fun g => ob (evs tm args) fun l => callvK C g l H n K := by
  simp only [sop]; rfl
theorem callvK_fn {f : Nat} {caps l : List SV} {K : SV → Hp → Nat → Prop} : callvK C (.fn f caps) l H n K = callK (C f) (l ++ caps) H n K := rfl
theorem callvK_f {f : Nat} {l : List SV} {K : SV → Hp → Nat → Prop} : callvK C (.v (.func (.func f) #[] #[])) l H n K = callK (C f) l H n K := rfl
theorem callvK_yl {i : Nat} {l : List SV} {K : SV → Hp → Nat → Prop} : callvK C (.yl i) l H n K = callK (C.y i) l H n K := rfl
theorem vc_rangeF {g : MA} {ps : List Nat} {N : Nat} {ma mb : MC} {K : Ex → St → Prop} : vc C base (.rangeF g ps N ma mb) ⟨tm, H, n⟩ K = ob (ev tm g) fun g => rfK C g ps N ma mb ⟨tm, H, n⟩ K := rfl
@[congr] theorem c_rfK {g g' : SV} {ps : List Nat} {N : Nat} {ma mb : MC} {s : St} {K : Ex → St → Prop} (h : g = g') : rfK C g ps N ma mb s K = rfK C g' ps N ma mb s K := by rw [h]
def rfGo (b : Body) (tm : List (Nat × SV)) (H : Hp) (n : Nat) (K : Ex → St → Prop) : Prop := match b with
  | .mp (.loop _ st pd _) => st ≠ .busy ∧ (match pd with
    | none => K .normal ⟨tm, H, n⟩
    | some .ret => K .ret ⟨tm, H, n⟩
    | some (.exit id) => K (.exit id) ⟨tm, H, n⟩
    | _ => False)
  | _ => False
@[congr] theorem c_rfGo {b b' : Body} {K : Ex → St → Prop} (h : b = b') : rfGo b tm H n K = rfGo b' tm H n K := by rw [h]
theorem rfEnd_eq {k : Nat} {K : Ex → St → Prop} {v : SV} : rfEnd k tm K v H n = ob (H.get k) fun o => o.wr = true ∧ rfGo o.b tm (H.del k) n K := rfl
theorem rfGo_none {L : Loop} {tm' : List (Nat × SV)} {K : Ex → St → Prop} : rfGo (.mp (.loop L .ready none tm')) tm H n K = K .normal ⟨tm, H, n⟩ := by simp [rfGo]
theorem rfGo_ret {L : Loop} {tm' : List (Nat × SV)} {K : Ex → St → Prop} : rfGo (.mp (.loop L .done (some .ret) tm')) tm H n K = K .ret ⟨tm, H, n⟩ := by simp [rfGo]
theorem rfGo_exit {L : Loop} {id : Nat} {tm' : List (Nat × SV)} {K : Ex → St → Prop} : rfGo (.mp (.loop L .done (some (.exit id)) tm')) tm H n K = K (.exit id) ⟨tm, H, n⟩ := by simp [rfGo]
def yGo (b : Body) (K : Loop → LoopState → Option Code → List (Nat × SV) → Prop) : Prop := match b with
  | .mp (.loop L st pd tm) => K L st pd tm
  | _ => False
theorem yGo_mk {L : Loop} {st : LoopState} {pd : Option Code} {tm : List (Nat × SV)} {K : Loop → LoopState → Option Code → List (Nat × SV) → Prop} : yGo (.mp (.loop L st pd tm)) K = K L st pd tm := rfl
@[congr] theorem c_yGo {b b' : Body} {K : Loop → LoopState → Option Code → List (Nat × SV) → Prop} (h : b = b') : yGo b K = yGo b' K := by rw [h]
theorem yEnd_n {i : Nat} {K : SV → Hp → Nat → Prop} : yEnd i K .normal ⟨tm, H, n⟩ = ob (H.get i) fun o => o.wr = true ∧ yGo o.b fun L _ _ tm => K (.v (.bool true)) (H.put i ⟨true, .mp (.loop L .ready none tm)⟩) n := rfl
theorem yEnd_r {i : Nat} {K : SV → Hp → Nat → Prop} : yEnd i K .ret ⟨tm, H, n⟩ = ob (H.get i) fun o => o.wr = true ∧ yGo o.b fun L _ _ tm => K (.v (.bool false)) (H.put i ⟨true, .mp (.loop L .done (some .ret) tm)⟩) n := rfl
theorem yEnd_e {i id : Nat} {K : SV → Hp → Nat → Prop} : yEnd i K (.exit id) ⟨tm, H, n⟩ = ob (H.get i) fun o => o.wr = true ∧ yGo o.b fun L _ _ tm => K (.v (.bool false)) (H.put i ⟨true, .mp (.loop L .done (some (.exit id)) tm)⟩) n := rfl
def yRdy (b : Body) (K : Loop → Option Code → List (Nat × SV) → Prop) : Prop := match b with
  | .mp (.loop L .ready pd tm) => K L pd tm
  | _ => False
theorem yRdy_mk {L : Loop} {pd : Option Code} {tm : List (Nat × SV)} {K : Loop → Option Code → List (Nat × SV) → Prop} : yRdy (.mp (.loop L .ready pd tm)) K = K L pd tm := rfl
@[congr] theorem c_yRdy {b b' : Body} {K : Loop → Option Code → List (Nat × SV) → Prop} (h : b = b') : yRdy b K = yRdy b' K := by rw [h]
theorem yMid_n {i : Nat} {mb : MC} {m : Nat} {K : SV → Hp → Nat → Prop} : yMid C m i mb K .normal ⟨tm, H, n⟩ = ob (H.get i) fun o => o.wr = true ∧ yRdy o.b fun L pd tm1 => vc C m mb ⟨tm, H.put i ⟨true, .mp (.loop L .busy pd tm1)⟩, n⟩ (yEnd i K) := by
  refine congrArg (ob (H.get i)) (funext fun o => ?_)
  obtain ⟨wr, b⟩ := o
  refine congrArg (wr = true ∧ ·) ?_
  rcases b with _ | _ | _ | _ | (_ | ⟨L, st, pd, tm1⟩) <;> first
    | rfl
    | (cases st <;> rfl)
@[congr] theorem c_yEnd {i : Nat} {K : SV → Hp → Nat → Prop} {e : Ex} {s : St} : yEnd i K e s = yEnd i K e s := rfl
@[congr] theorem c_yMid {i : Nat} {mb : MC} {m : Nat} {K : SV → Hp → Nat → Prop} {e : Ex} {s : St} : yMid C m i mb K e s = yMid C m i mb K e s := rfl
@[congr] theorem c_rfEnd {k : Nat} {K : Ex → St → Prop} {v : SV} : rfEnd k tm K v H n = rfEnd k tm K v H n := rfl
theorem putPs_nil {l : List SV} : putPs [] l tm = tm := by cases l <;> rfl
theorem putPs_cons {p : Nat} {ps : List Nat} {v : SV} {l : List SV} : putPs (p :: ps) (v :: l) tm = putPs ps l ((p, v) :: tm) := rfl
theorem leaf_v {x : Value} : SV.leaf (.v x) = true := rfl
theorem leaf_ptr {i o : Nat} : SV.leaf (.ptr i o) = true := rfl
theorem leaf_sl {i o m z : Nat} : SV.leaf (.sl i o m z) = true := rfl
theorem leaf_yl {i : Nat} : SV.leaf (.yl i) = true := rfl
theorem leaf_mp {i : Nat} : SV.leaf (.mp i) = true := rfl
theorem z_appS {x y : MA} {e : Body} {K : SV → Hp → Nat → Prop} : sop C tm H n (.appS x y e) K = ob (ev tm x) fun a => ob (ev tm y) fun b => asSl a fun i o m z1 => asS b fun s => (i ≠ 0 → z1 = 1) ∧ wrOf H i ∧
      (m + s.size ≤ 140737488355328) ∧ rowOf H i o m e fun b1 => b1.cat (.ints .u8 (bts s)) fun b => fresh (H.kill i) n b fun H' n' => K (.sl n 0 (m + s.size) 1) H' n' := rfl
theorem z_appST {x y : MA} {e : Body} {T : Nat} {K : SV → Hp → Nat → Prop} : sop C tm H n (.appST x y e T) K = ob (ev tm x) fun a => ob (ev tm y) fun b => asSl a fun i o m z1 => asS b fun s => (i ≠ 0 → z1 = 1) ∧ wrOf H i ∧
      (m + s.size ≤ 140737488355328) ∧ shpOf H i o T ∧ rowOf H i o m e fun b1 => b1.cat (.ints .u8 (bts s)) fun b => freshR (H.kill i) n b T fun H' n' => K (.sl n 0 (m + s.size) 1) H' n' := rfl
theorem z_appZ {x y : MA} {e zero : Body} {z by_ : Nat} {K : SV → Hp → Nat → Prop} : sop C tm H n (.appZ x y e zero z by_) K = ob (ev tm x) fun a => ob (ev tm y) fun b => asSl a fun i o m z1 => asI b fun q => (i ≠ 0 → z1 = z) ∧ wrOf H i ∧ 0 ≤ q ∧
      (m + q.toNat) * by_ ≤ 140737488355328 ∧ (m + q.toNat ≤ 140737488355328) ∧ zero.ones ∧ rowOf H i o (m * z) e fun b1 => b1.cat (zero.reps q.toNat) fun b => fresh (H.kill i) n b fun H' n' => K (.sl n 0 (m + q.toNat) z) H' n' := rfl
theorem z_cpyS {x y : MA} {K : SV → Hp → Nat → Prop} : sop C tm H n (.cpyS x y) K = ob (ev tm x) fun a => ob (ev tm y) fun b => asSl a fun i o m z1 => asS b fun t => z1 = 1 ∧ ob (H.get i) fun s => s.wr = true ∧
      s.b.over o (.ints .u8 ((bts t).take (min t.size m))) fun b => K (.v (.int .i64 (min t.size m : Nat))) (H.put i ⟨true, b⟩) n := rfl
theorem z_mkfn {f : Nat} {caps : List MA} {K : SV → Hp → Nat → Prop} : sop C tm H n (.mkfn f caps) K = ob (evs tm caps) fun l => l.all SV.leaf = true ∧ K (if l.isEmpty then .v (.func (.func f) #[] #[]) else .fn f l) H n := rfl
theorem reps_int {k : IntKind} {m : Nat} : Body.reps (.ints k [0]) m = .ints k (List.replicate m 0) := rfl
theorem reps_str {s : ByteArray} {m : Nat} : Body.reps (.strs [s]) m = .strs (List.replicate m s) := rfl
theorem z_rowV {z : Nat} {e : Body} {xs : List MA} {K : SV → Hp → Nat → Prop} : sop C tm H n (.rowV z e xs) K = ob (evs tm xs) fun l => (l.all fun a => (partCells a).length == z) = true ∧ z ≠ 0 ∧ ob (bodyOf e (l.flatMap partCells)) fun b => fresh H n b fun H' n' => K (.sl n 0 l.length z) H' n' := rfl
def nilK (H : Hp) (i m : Nat) (T S : Prop) : Prop := if i = 0 then T else ob (H.get i) fun s => (m = 0 → s.b.cells = [] → T) ∧ S
@[congr] theorem c_nilK {i i' m m' : Nat} {T S : Prop} (h : i = i') (h2 : m = m') : nilK H i m T S = nilK H i' m' T S := by rw [h, h2]
theorem z_slnil {ne : Bool} {x : MA} {K : SV → Hp → Nat → Prop} : sop C tm H n (.slnil ne x) K = ob (ev tm x) fun a => asSl a fun i o m z => nilK H i m (K (.v (.bool (!ne))) H n) (K (.v (.bool ne)) H n) := rfl
theorem nilK_zero {m : Nat} {T S : Prop} : nilK H 0 m T S = T := rfl
theorem z_cpy {x y : MA} {z : Nat} {K : SV → Hp → Nat → Prop} : sop C tm H n (.cpy x y z) K = ob (ev tm x) fun a => ob (ev tm y) fun b => asSl a fun i o m z1 => asSl b fun j p q z2 => z1 = z ∧ z2 = z ∧ ob (H.get i) fun s => s.wr = true ∧ ob (H.get j) fun t =>
      t.b.part p (min q m * z) fun c => c.ones ∧ s.b.over o c fun b => K (.v (.int .i64 (min q m : Nat))) (H.put i ⟨true, b⟩) n := rfl
theorem z_call {f : Nat} {args : List MA} {K : SV → Hp → Nat → Prop} : sop C tm H n (.call f args) K = ob (evs tm args) fun l => callK (C f) l H n K := rfl
theorem z_ext {x : MA} {m : Nat} {cs : List SV} (h : ev tm x = some (.tup cs)) {K : SV → Hp → Nat → Prop} : sop C tm H n (.ext x m) K = ob cs[m]? fun c => K c H n := by simp only [sop, h]; rfl
def asT (a : SV) (m : Nat) (K : SV → Prop) : Prop := match a with
  | .tup cs => ob cs[m]? K
  | .v (.tuple ⟨xs⟩) => ob xs[m]? fun x => K (.v x)
  | _ => False
@[congr] theorem c_asT {a : SV} {m : Nat} {K : SV → Prop} : asT a m K = asT a m K := rfl
theorem asT_tup {cs : List SV} {m : Nat} {K : SV → Prop} : asT (.tup cs) m K = ob cs[m]? K := rfl
theorem z_extT {x : MA} {m : Nat} {K : SV → Hp → Nat → Prop} : sop C tm H n (.ext x m) K = ob (ev tm x) fun a => asT a m fun c => K c H n := by
  simp only [sop]; rfl
def boxOf (a : SV) (K : Body → Prop) : Prop := match a with
  | .ai k ys => K (.ints k ys)
  | .v (.agg ⟨xs⟩) => K (.pl xs)
  | .agg cs => K (.sv cs)
  | .tup _ => False
  | .v (.tuple _) => False
  | a => K (.sv [a])
@[congr] theorem c_boxOf {a : SV} {K : Body → Prop} : boxOf a K = boxOf a K := rfl
theorem z_box {x : MA} {K : SV → Hp → Nat → Prop} : sop C tm H n (.box x) K = ob (ev tm x) fun a => boxOf a fun b => fresh H n b fun H' n' => K (.ptr n 0) H' n' := by
  simp only [sop]; rfl
theorem boxOf_ai {k : IntKind} {ys : List Int} {K : Body → Prop} : boxOf (.ai k ys) K = K (.ints k ys) := rfl
theorem boxOf_agg {cs : List SV} {K : Body → Prop} : boxOf (.agg cs) K = K (.sv cs) := rfl
theorem boxOf_int {k : IntKind} {x : Int} {K : Body → Prop} : boxOf (.v (.int k x)) K = K (.sv [.v (.int k x)]) := rfl
theorem boxOf_str {s : ByteArray} {K : Body → Prop} : boxOf (.v (.string s)) K = K (.sv [.v (.string s)]) := rfl
theorem boxOf_bool {s : Bool} {K : Body → Prop} : boxOf (.v (.bool s)) K = K (.sv [.v (.bool s)]) := rfl
theorem boxOf_ptr {i o : Nat} {K : Body → Prop} : boxOf (.ptr i o) K = K (.sv [.ptr i o]) := rfl
theorem boxOf_sl {i o m z : Nat} {K : Body → Prop} : boxOf (.sl i o m z) K = K (.sv [.sl i o m z]) := rfl
theorem sbin_int {op : BinOp} {k k' : IntKind} {x y : Int} {K : SV → Prop} : sbin op (.v (.int k x)) (.v (.int k' y)) K = ibin op k x k' y K := rfl
theorem sbin_str {op : BinOp} {x y : ByteArray} {K : SV → Prop} : sbin op (.v (.string x)) (.v (.string y)) K = strbin op x y K := rfl
theorem sbinA_mk {op : BinOp} {fs : List Nat} {xs ys : List SV} {K : SV → Prop} : sbinA op fs (.agg xs) (.agg ys) K = ob (aggEq fs xs ys) fun e => ptrbin op e K := rfl
theorem ae_nil {xs ys : List SV} : aggEq [] xs ys = some true := by unfold aggEq; rfl
theorem ae_int {fs : List Nat} {k : IntKind} {a b : Int} {xs ys : List SV} : aggEq (0 :: fs) (.v (.int k a) :: xs) (.v (.int k b) :: ys) = (aggEq fs xs ys).map fun r => decide (a = b) && r := by
  rw [aggEq, if_pos rfl]
theorem ae_str {fs : List Nat} {a b : ByteArray} {xs ys : List SV} : aggEq (1 :: fs) (.v (.string a) :: xs) (.v (.string b) :: ys) = (aggEq fs xs ys).map fun r => seq a b && r := by
  rw [aggEq]
theorem sbinB_mk {op : BinOp} {x y : Bool} {K : SV → Prop} : sbinB op (.v (.bool x)) (.v (.bool y)) K = boolbin op x y K := rfl
theorem sbinP_nn {op : BinOp} {K : SV → Prop} : sbinP op (.v (.pointer none)) (.v (.pointer none)) K = ptrbin op true K := rfl
theorem sbinP_pn {op : BinOp} {i o : Nat} {K : SV → Prop} : sbinP op (.ptr i o) (.v (.pointer none)) K = ptrbin op false K := rfl
theorem sbinP_np {op : BinOp} {i o : Nat} {K : SV → Prop} : sbinP op (.v (.pointer none)) (.ptr i o) K = ptrbin op false K := rfl
section
variable {k : IntKind} {x y : Int} {K : SV → Prop}
theorem i_add : ibin .add k x k y K = K (.v (.int k (k.wrap (x + y)))) := by simp [ibin]
theorem i_sub : ibin .sub k x k y K = K (.v (.int k (k.wrap (x - y)))) := by simp [ibin]
theorem i_mul : ibin .mul k x k y K = K (.v (.int k (k.wrap (x * y)))) := by simp [ibin]
theorem i_quo : ibin .quo k x k y K = (y ≠ 0 ∧ K (.v (.int k (k.wrap (x.tdiv y))))) := by simp [ibin]
theorem i_rem : ibin .rem k x k y K = (y ≠ 0 ∧ K (.v (.int k (x.tmod y)))) := by simp [ibin]
theorem i_and : ibin .and k x k y K = K (.v (.int k (iand k x y))) := by simp [ibin]
theorem i_or : ibin .or k x k y K = K (.v (.int k (ior k x y))) := by simp [ibin]
theorem i_xor : ibin .xor k x k y K = K (.v (.int k (ixor k x y))) := by simp [ibin]
theorem i_andNot : ibin .andNot k x k y K = K (.v (.int k (iandn k x y))) := by simp [ibin]
theorem i_shl {k' : IntKind} : ibin .shl k x k' y K = (0 ≤ y ∧ K (.v (.int k (ishl k x y)))) := rfl
theorem i_shr {k' : IntKind} : ibin .shr k x k' y K = (0 ≤ y ∧ K (.v (.int k (ishr k x y)))) := rfl
theorem i_eql : ibin .eql k x k y K = K (.v (.bool (decide (x = y)))) := by simp [ibin]; rfl
theorem i_neq : ibin .neq k x k y K = K (.v (.bool (!decide (x = y)))) := by simp [ibin, bne]; rfl
theorem i_lss : ibin .lss k x k y K = K (.v (.bool (decide (x < y)))) := by simp [ibin]
theorem i_leq : ibin .leq k x k y K = K (.v (.bool (decide (x ≤ y)))) := by simp [ibin]
theorem i_gtr : ibin .gtr k x k y K = K (.v (.bool (decide (x > y)))) := by simp [ibin]
theorem i_geq : ibin .geq k x k y K = K (.v (.bool (decide (x ≥ y)))) := by simp [ibin]
variable {s t : ByteArray}
theorem st_add : strbin .add s t K = (s.size + t.size ≤ 9223372036854775807 ∧ K (.v (.string (s ++ t)))) := rfl
theorem st_eql : strbin .eql s t K = K (.v (.bool (seq s t))) := rfl
theorem st_neq : strbin .neq s t K = K (.v (.bool (!seq s t))) := rfl
theorem st_lss : strbin .lss s t K = K (.v (.bool (slt s t))) := rfl
theorem st_leq : strbin .leq s t K = K (.v (.bool (sle s t))) := rfl
theorem st_gtr : strbin .gtr s t K = K (.v (.bool (!sle s t))) := rfl
theorem st_geq : strbin .geq s t K = K (.v (.bool (!slt s t))) := rfl
variable {b c : Bool}
theorem bo_eql : boolbin .eql b c K = K (.v (.bool (b == c))) := rfl
theorem bo_neq : boolbin .neq b c K = K (.v (.bool (!(b == c)))) := rfl
theorem pt_eql : ptrbin .eql b K = K (.v (.bool b)) := rfl
theorem pt_neq : ptrbin .neq b K = K (.v (.bool (!b))) := rfl
theorem un_neg : sun .neg (.v (.int k x)) K = K (.v (.int k (k.wrap (0 - x)))) := rfl
theorem un_xor : sun .xor (.v (.int k x)) K = K (.v (.int k (ixor k (if k.signed then -1 else k.max) x))) := rfl
theorem un_not : sun .not (.v (.bool b)) K = K (.v (.bool (!b))) := rfl
end
theorem asI_mk {k : IntKind} {x : Int} {K : Int → Prop} : asI (.v (.int k x)) K = K x := rfl
theorem asB_mk {x : Bool} {K : Bool → Prop} : asB (.v (.bool x)) K = K x := rfl
theorem asS_mk {x : ByteArray} {K : ByteArray → Prop} : asS (.v (.string x)) K = K x := rfl
theorem asP_mk {i o : Nat} {K : Nat → Nat → Prop} : asP (.ptr i o) K = K i o := rfl
theorem asSl_mk {i o m z : Nat} {K : Nat → Nat → Nat → Nat → Prop} : asSl (.sl i o m z) K = K i o m z := rfl
theorem asBy_mk {ys : List Int} {K : List Int → Prop} : asBy (.ints .u8 ys) K = K ys := rfl
theorem fresh_eq {b : Body} {K : Hp → Nat → Prop} : fresh H n b K = (n < 1000 ∧ K (H.put n ⟨true, b⟩) (n + 1)) := rfl
theorem bnd_none {d : Int} {K : Int → Prop} : bnd tm none d K = K d := rfl
theorem bnd_some {m : MA} {d : Int} {K : Int → Prop} : bnd tm (some m) d K = ob (ev tm m) fun a => asI a K := rfl
theorem get_mk {l : List (Nat × Option SO)} {x : Nat → Option SO} {i : Nat} : Hp.get ⟨l, x⟩ i = match lk l i with
  | some r => r
  | none => x i := rfl
theorem hput_mk {l : List (Nat × Option SO)} {x : Nat → Option SO} {i : Nat} {s : SO} : Hp.put ⟨l, x⟩ i s = ⟨(i, some s) :: l, x⟩ := rfl
theorem hdel_mk {l : List (Nat × Option SO)} {x : Nat → Option SO} {i : Nat} : Hp.del ⟨l, x⟩ i = ⟨(i, none) :: l, x⟩ := rfl
theorem kill_eq {i : Nat} : Hp.kill H i = if i = 0 then H else H.del i := rfl
theorem wrOf_eq {i : Nat} : wrOf H i = if i = 0 then True else ob (H.get i) fun s => s.wr = true := rfl
theorem rowOf_eq {i o m : Nat} {e : Body} {K : Body → Prop} : rowOf H i o m e K = if i = 0 then K e else ob (H.get i) fun s => s.b.part o m K := rfl
theorem rsvs_0 {K : SV → Prop} : rsvs tm H [] K = K (.tup []) := rfl
theorem rsvs_1 {r : MR} {K : SV → Prop} : rsvs tm H [r] K = rsv tm H r K := rfl
theorem rsvs_2 {r s : MR} {K : SV → Prop} : rsvs tm H [r, s] K = rsv tm H r fun a => rsv tm H s fun b => notTup a (notTup b (K (.tup [a, b]))) := rfl
theorem rsvs_3 {r s t : MR} {K : SV → Prop} : rsvs tm H [r, s, t] K = rsv tm H r fun a => rsv tm H s fun b => rsv tm H t fun c => notTup a (notTup b (notTup c (K (.tup [a, b, c])))) := rfl
theorem rsv_t {s : Nat} {K : SV → Prop} : rsv tm H (.t s) K = ob (lk tm s) K := rfl
theorem rsv_c1 {s : Nat} {K : SV → Prop} : rsv tm H (.c1 s) K = ob (lk tm s) fun a => asP a fun i o => ob (H.get i) fun s => s.b.get o K := rfl
theorem rsv_cn {s m : Nat} {K : SV → Prop} : rsv tm H (.cn s m) K = ob (lk tm s) fun a => asP a fun i o => ob (H.get i) fun s => s.b.getN o m K := rfl
theorem nt_v {x : Value} {K : Prop} : notTup (.v x) K = K := rfl
theorem nt_ptr {i o : Nat} {K : Prop} : notTup (.ptr i o) K = K := rfl
theorem nt_sl {i o m z : Nat} {K : Prop} : notTup (.sl i o m z) K = K := rfl
theorem nt_agg {l : List SV} {K : Prop} : notTup (.agg l) K = K := rfl
theorem nt_ai {k : IntKind} {l : List Int} {K : Prop} : notTup (.ai k l) K = K := rfl
theorem get_ints {k : IntKind} {ys : List Int} {o : Nat} {K : SV → Prop} : Body.get (.ints k ys) o K = (o < ys.length ∧ K (.v (.int k (ys.getD o 0)))) := rfl
theorem get_strs {ss : List ByteArray} {o : Nat} {K : SV → Prop} : Body.get (.strs ss) o K = (o < ss.length ∧ K (.v (.string (ss.getD o .empty)))) := rfl
theorem get_pl {xs : List Value} {o : Nat} {K : SV → Prop} : Body.get (.pl xs) o K = ob xs[o]? fun x => K (.v x) := rfl
theorem get_sv {cs : List SV} {o : Nat} {K : SV → Prop} : Body.get (.sv cs) o K = ob cs[o]? K := rfl
theorem getN_ints {k : IntKind} {ys : List Int} {o m : Nat} {K : SV → Prop} : Body.getN (.ints k ys) o m K = (o + m ≤ ys.length ∧ K (.ai k ((ys.drop o).take m))) := rfl
theorem getN_sv {cs : List SV} {o m : Nat} {K : SV → Prop} : Body.getN (.sv cs) o m K = (o + m ≤ cs.length ∧ K (.agg ((cs.drop o).take m))) := rfl
theorem set_ints {k : IntKind} {ys : List Int} {o : Nat} {x : Int} {K : Body → Prop} : Body.set (.ints k ys) o (.v (.int k x)) K = (o < ys.length ∧ K (.ints k (ys.set o x))) := by simp [Body.set]
theorem set_strs {ss : List ByteArray} {o : Nat} {s : ByteArray} {K : Body → Prop} : Body.set (.strs ss) o (.v (.string s)) K = (o < ss.length ∧ K (.strs (ss.set o s))) := rfl
theorem set_sv {cs : List SV} {o : Nat} {a : SV} {K : Body → Prop} : Body.set (.sv cs) o a K = (a.one = true ∧ o < cs.length ∧ K (.sv (cs.set o a))) := rfl
theorem setN_ints {k : IntKind} {ys zs : List Int} {o m : Nat} {K : Body → Prop} : Body.setN (.ints k ys) o m (.ai k zs) K = (zs.length = m ∧ o + m ≤ ys.length ∧ K (.ints k (splice ys o zs))) := by simp [Body.setN]
theorem setN_sv {cs zs : List SV} {o m : Nat} {K : Body → Prop} : Body.setN (.sv cs) o m (.agg zs) K = (zs.all (·.one) = true ∧ zs.length = m ∧ o + m ≤ cs.length ∧ K (.sv (splice cs o zs))) := rfl
theorem part_ints {k : IntKind} {ys : List Int} {o m : Nat} {K : Body → Prop} : Body.part (.ints k ys) o m K = (o + m ≤ ys.length ∧ K (.ints k ((ys.drop o).take m))) := rfl
theorem part_strs {ys : List ByteArray} {o m : Nat} {K : Body → Prop} : Body.part (.strs ys) o m K = (o + m ≤ ys.length ∧ K (.strs ((ys.drop o).take m))) := rfl
theorem part_sv {ys : List SV} {o m : Nat} {K : Body → Prop} : Body.part (.sv ys) o m K = (o + m ≤ ys.length ∧ K (.sv ((ys.drop o).take m))) := rfl
theorem cat_ints {k : IntKind} {ys zs : List Int} {K : Body → Prop} : Body.cat (.ints k ys) (.ints k zs) K = K (.ints k (ys ++ zs)) := by simp [Body.cat]
theorem cat_strs {ys zs : List ByteArray} {K : Body → Prop} : Body.cat (.strs ys) (.strs zs) K = K (.strs (ys ++ zs)) := rfl
theorem cat_sv {ys zs : List SV} {K : Body → Prop} : Body.cat (.sv ys) (.sv zs) K = K (.sv (ys ++ zs)) := rfl
theorem over_ints {k : IntKind} {ys zs : List Int} {o : Nat} {K : Body → Prop} : Body.over (.ints k ys) o (.ints k zs) K = (o + zs.length ≤ ys.length ∧ K (.ints k (splice ys o zs))) := by simp [Body.over]
theorem over_strs {ys zs : List ByteArray} {o : Nat} {K : Body → Prop} : Body.over (.strs ys) o (.strs zs) K = (o + zs.length ≤ ys.length ∧ K (.strs (splice ys o zs))) := rfl
theorem over_sv {ys zs : List SV} {o : Nat} {K : Body → Prop} : Body.over (.sv ys) o (.sv zs) K = (o + zs.length ≤ ys.length ∧ K (.sv (splice ys o zs))) := rfl
theorem ones_ints {k : IntKind} {ys : List Int} : Body.ones (.ints k ys) = True := rfl
theorem ones_strs {ys : List ByteArray} : Body.ones (.strs ys) = True := rfl
theorem evs_nil : evs tm [] = some [] := rfl
theorem evs_cons {x : MA} {l : List MA} : evs tm (x :: l) = match ev tm x, evs tm l with
    | some a, some r => some (a :: r)
    | _, _ => none := rfl
theorem loop_roll (k : Nat) {body : St → (Ex → St → Prop) → Prop} {s : St} {K : Ex → St → Prop} (h : LoopU base body k s K) : Loops base body s K := ⟨k, h⟩
theorem loop_fam {α : Type} (p : α → Prop) (I : α → St) (μ : α → Nat) (a0 : α) {b : MC} {s : St} {K : Ex → St → Prop} (h0 : p a0) (hs : Sub base (I a0) s)
    (hr : ∀ a, p a → vc C base b (I a) (kLoop base p I μ a K)) : Loops base (vc C base b) s K := by
  refine ⟨0, {a // p a}, fun a => I a.1, fun a => μ a.1, ⟨⟨a0, h0⟩, hs⟩, fun a => ?_⟩
  have := hr a.1 a.2
  refine vc_mono (fun e s' h => ?_) this
  cases e with
  | normal =>
    obtain ⟨a', h1, h2, h3⟩ := h
    exact ⟨⟨a', h1⟩, h3, h2⟩
  | exit j => exact h
  | ret => exact h
theorem condK_of {p S T : Prop} [Decidable p] (h1 : p → S) (h2 : ¬ p → T) : condK (decide p) S T := by rw [condK_dec]; exact ⟨h1, h2⟩
theorem condK_ofB {b : Bool} {S T : Prop} (h1 : b = true → S) (h2 : b = false → T) : condK b S T := ⟨h1, h2⟩
theorem condK_ofN {p S T : Prop} [Decidable p] (h1 : ¬ p → S) (h2 : p → T) : condK (!decide p) S T := by rw [condK_not, condK_dec]; exact ⟨h2, h1⟩
theorem gd_condK {b want : Bool} {T E : Prop} : gd (.v (.bool b)) want T E = condK (b == want) T E := gd_bool
theorem condK_eqt {b : Bool} {S T : Prop} : condK (b == true) S T = condK b S T := by cases b <;> rfl
theorem condK_eqf {b : Bool} {S T : Prop} : condK (b == false) S T = condK b T S := by cases b <;> simp [condK]
end Go.Sx
