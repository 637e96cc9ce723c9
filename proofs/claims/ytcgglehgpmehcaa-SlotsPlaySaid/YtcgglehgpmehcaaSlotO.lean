/- Slots: structs that came in. -/
import Derived.Test.YtcgglehgpmehcaaSlotB
import Derived.Test.YtcgglehgpmehcaaRows
import Derived.Test.YtcgglehgpmehcaaSxC

set_option linter.unusedVariables false
set_option linter.unusedSimpArgs false
set_option maxRecDepth 100000
namespace Go.Sx
open Go.Proofs Go.ChangeShapes Go.WideShapes Go.ChangeAt Go.RowKit
variable {H : Type} {enc : TypeId × Value → H} {W : World}

theorem u8_lt {p : Int} (h : (Lit.int .u8 p).wf = true) : ∃ k : Nat, p = k ∧ k < 256 := by
  simp [Lit.wf, IntKind.min, IntKind.max, IntKind.signed, IntKind.bits] at h
  exact ⟨p.toNat, by omega, by omega⟩
end Go.Sx

/- Slots: slices of calls (Op) that came in. -/
set_option linter.unusedVariables false
set_option linter.unusedSimpArgs false
set_option maxRecDepth 100000
namespace Go.Sx
open Go.Proofs Go.ChangeShapes Go.WideShapes Go.ChangeAt Go.RowKit Go.Deep
variable {H : Type} {enc : TypeId × Value → H} {W : World}

/-- A call's six cells. -/
theorem op_cells {fuel : Nat} {cs : List Value} {x : DataW H × List MemPlace} (h : DataW.trod enc Try.prog W 0 (fun _ => true) true fuel 55 cs = some x) :
    ∃ (u k v q : Int) (s : ByteArray) (kv : Value) (n : Nat) (y : DataW H × List MemPlace), cs = [.int .u8 u, .int .i64 k, .int .i64 v, .int .i64 q, .string s, kv] ∧ (Lit.int .u8 u).wf = true ∧ (Lit.int .i64 k).wf = true ∧ (Lit.int .i64 v).wf = true ∧ (Lit.int .i64 q).wf = true ∧ DataW.trod enc Try.prog W 0 (fun _ => true) true n 51 [kv] = some y := by
  obtain ⟨xs, n, rfl, rfl, hl, hxl, hf⟩ := DataW.trod_struct Try.underlying55 h
  have h0 := hf 0 { name := "Kind", type := 5, offset := 0, embedded := false, tag := "", pkgPath := "", byteOffset := 0 } rfl
  have h1 := hf 1 { name := "Slot", type := 3, offset := 1, embedded := false, tag := "", pkgPath := "", byteOffset := 8 } rfl
  have h2 := hf 2 { name := "Version", type := 3, offset := 2, embedded := false, tag := "", pkgPath := "", byteOffset := 16 } rfl
  have h3 := hf 3 { name := "At", type := 3, offset := 3, embedded := false, tag := "", pkgPath := "", byteOffset := 24 } rfl
  have h4 := hf 4 { name := "Image", type := 9, offset := 4, embedded := false, tag := "", pkgPath := "", byteOffset := 32 } rfl
  have h5 := hf 5 { name := "Fate", type := 53, offset := 5, embedded := false, tag := "", pkgPath := "", byteOffset := 48 } rfl
  have c5 : Try.prog.cellsOf 5 = 1 := by kernel_rfl
  have c3 : Try.prog.cellsOf 3 = 1 := by kernel_rfl
  have c9 : Try.prog.cellsOf 9 = 1 := by kernel_rfl
  have c53 : Try.prog.cellsOf 53 = 1 := by kernel_rfl
  have c55 : Try.prog.cellsOf 55 = 6 := by kernel_rfl
  rw [c55] at hl
  match cs, hl with
  | [a, b, c, d, e, f], _ =>
    match xs, hxl with
    | [y0, y1, y2, y3, y4, y5], _ =>
      simp only [c5, c3, c9, c53, List.drop_succ_cons, List.drop_zero, List.take_succ_cons, List.take_zero, List.getElem?_cons_succ, List.getElem?_cons_zero] at h0 h1 h2 h3 h4 h5
      obtain ⟨u, e0, hu⟩ := DataW.trod_int Try.underlying5 h0
      obtain ⟨k, e1, hk⟩ := DataW.trod_int Try.underlying3 h1
      obtain ⟨v, e2, hv⟩ := DataW.trod_int Try.underlying3 h2
      obtain ⟨q, e3, hq⟩ := DataW.trod_int Try.underlying3 h3
      obtain ⟨s, e4, hs⟩ := DataW.trod_string Try.underlying9 h4
      obtain ⟨xs', n', rfl, e5, hl', hxl', hf'⟩ := DataW.trod_struct Try.underlying53 h5
      have h6 := hf' 0 { name := "Keep", type := 51, offset := 0, embedded := false, tag := "", pkgPath := "", byteOffset := 0 } rfl
      have c51 : Try.prog.cellsOf 51 = 1 := by kernel_rfl
      simp only [c51, List.drop_zero, List.take_succ_cons, List.take_zero] at h6
      obtain ⟨y6, g6⟩ : ∃ y, xs'[0]? = some y := ⟨_, List.getElem?_eq_getElem (by rw [hxl']; decide)⟩
      rw [g6] at h6
      simp only [List.cons.injEq, and_true] at e0 e1 e2 e3 e4
      subst e0; subst e1; subst e2; subst e3; subst e4
      exact ⟨u, k, v, q, s, f, _, _, rfl, hu.2, hk.2, hv.2, hq.2, h6⟩
theorem cells?_get {W : World} {b n : Nat} {a : Addr} {cs : List Value} (h : W.cells? b a n = some cs) (i : Nat) (hi : i < n) : W.cell? (a.add i) = cs[i]? := by
  unfold World.cells? at h
  split at h
  · exact mapM_some_get h i i (by simp [hi])
  · cases h
/-- A slice of numbers that lies in a cell. -/
structure KV (W : World) (l : Loc) (zs : List Int) (m : Nat) (kv : Value) : Prop where
  row : ∀ ρ, ObjOK ρ W l ⟨false, .ints .i64 zs⟩
  live : ∀ k, l.blk = some k → k < W.heap.size
  sl : slrel l 0 m 1 kv
  len : m ≤ zs.length
  sh : l.sh = none
theorem in_kv {fuel : Nat} {kv : Value} {y : DataW H × List MemPlace} (h0 : DataW.trod enc Try.prog W 0 (fun _ => true) true fuel 51 [kv] = some y) : ∃ l zs m, KV W l zs m kv := by
  rcases open_ints Try.underlying51 Try.underlying3 (by kernel_rfl) h0 with ⟨hcs, hx⟩ | ⟨a, len, cap, zs, hcs, _, hl, hm, hz, hx, hcell, hws⟩
  · cases hcs
    exact ⟨⟨none, 0, 0, false, none⟩, [], 0, fun ρ => ⟨rfl, exOK_ro rfl⟩, fun k hk => (by cases hk), ⟨rfl, .inl rfl⟩, Nat.le_refl _, rfl⟩
  · cases hcs
    replace hz : zs.length = cap := by simpa using hz
    by_cases h00 : cap = 0
    · subst h00
      have : len = 0 := by omega
      subst this
      exact ⟨⟨none, 0, 1, false, none⟩, [], 0, fun ρ => ⟨rfl, exOK_ro rfl⟩, fun k hk => (by cases hk), ⟨rfl, .inr ⟨by decide, a, rfl⟩⟩, Nat.le_refl _, rfl⟩
    · have hc0 := hcell 0 (by omega)
      have hs : a.spot = none := by
        have := World.cell?_spot hc0
        simpa [Addr.add] using this
      obtain ⟨c, T, fr, hb⟩ : ∃ c T fr, W.heap[a.block]? = some (.cells c T fr) := by
        have e : a.add 0 = a := by simp [Addr.add]
        rw [e] at hc0
        unfold World.cell? at hc0
        split at hc0
        · rename_i c T fr hb; exact ⟨c, T, fr, hb⟩
        · cases hc0
      have hsz : a.off + zs.length ≤ c.size := by
        have := hcell (zs.length - 1) (by omega)
        rw [cell_at hs hb] at this
        have := (Array.getElem?_eq_some_iff.1 this).1
        omega
      refine ⟨⟨some a.block, a.off, cap, false, none⟩, zs, len, fun ρ => ⟨?_, exOK_ro rfl⟩, fun k hk => (by cases hk; exact (Array.getElem?_eq_some_iff.1 hb).1), ?_, by omega, rfl⟩
      · refine ⟨c, T, fr, hb, by simp only; omega, by simp [Body.cells, hz], ?_, fun h => by cases h⟩
        intro j x hj
        simp only [Body.cells, List.getElem?_map] at hj
        have hj' : j < zs.length := by
          cases hq : zs[j]? with
          | none => rw [hq] at hj; cases hj
          | some q => exact (List.getElem?_eq_some_iff.1 hq).1
        refine ⟨.int .i64 (zs.getD j 0), by rw [← cell_at hs hb]; exact hcell j hj', ?_⟩
        rw [List.getElem?_eq_getElem hj'] at hj
        simp only [Option.map_some, Option.some.injEq] at hj
        subst hj
        simp [crel, arel, List.getD_eq_getElem?_getD, List.getElem?_eq_getElem hj']
      · refine ⟨cap, a.off, hl, ⟨by simp, fun e => by cases e⟩, fun h => by simp, ?_⟩
        cases a; cases hs; rfl
/-- A call that came in. -/
structure OpV where
  u : Int
  k : Int
  v : Int
  a : Int
  s : ByteArray
  zs : List Int
  m : Nat
def ocell (id : Nat) (o : OpV) : List SV := [.v (.int .u8 o.u), .v (.int .i64 o.k), .v (.int .i64 o.v), .v (.int .i64 o.a), .v (.string o.s), .sl id 0 o.m 1]
def orow (A : Nat) : Nat → List OpV → List SV
  | _, [] => []
  | j, o :: r => ocell (1000 + 4 * j + A) o ++ orow A (j + 1) r
theorem orow_len {A : Nat} : ∀ {l : List OpV} {j : Nat}, (orow A j l).length = l.length * 6
  | [], _ => rfl
  | o :: r, j => by simp only [orow, List.length_append, orow_len, ocell, List.length_cons, List.length_nil]; omega
theorem orow_at {A : Nat} {o0 : OpV} : ∀ {l : List OpV} {j0 j : Nat}, j < l.length → ((orow A j0 l).drop (j * 6)).take 6 = ocell (1000 + 4 * (j0 + j) + A) (l.getD j o0)
  | [], _, _, h => by simp at h
  | o :: r, j0, 0, _ => by simp [orow, ocell]
  | o :: r, j0, j + 1, h => by
    have := orow_at (A := A) (o0 := o0) (l := r) (j0 := j0 + 1) (j := j) (by simpa using h)
    have e : (orow A j0 (o :: r)).drop ((j + 1) * 6) = (orow A (j0 + 1) r).drop (j * 6) := by
      rw [show (j + 1) * 6 = 6 + j * 6 by omega, ← List.drop_drop]; rfl
    rw [e, this, show j0 + 1 + j = j0 + (j + 1) by omega]; rfl
/-- Its numbers. -/
def OpV.rng (o : OpV) : Prop := (0 ≤ o.u ∧ o.u ≤ 255) ∧ (-9223372036854775808 ≤ o.k ∧ o.k ≤ 9223372036854775807) ∧ (-9223372036854775808 ≤ o.v ∧ o.v ≤ 9223372036854775807) ∧ -9223372036854775808 ≤ o.a ∧ o.a ≤ 9223372036854775807
/-- The cells of the calls of a slice. -/
structure OpsIn (W : World) (v : Value) (ops : List OpV) (m : Nat) (lf : Nat → Loc) : Prop where
  lem : m ≤ ops.length
  rng : ∀ j, j < ops.length → (ops.getD j ⟨0, 0, 0, 0, .empty, [], 0⟩).rng
  sh : ∀ j, (lf j).sh = none
  ok : ∃ vs : List Value, vs.length = ops.length * 6 ∧ (∀ j, j < ops.length → ∃ kv, (vs.drop (j * 6)).take 6 = [.int .u8 (ops.getD j ⟨0, 0, 0, 0, .empty, [], 0⟩).u, .int .i64 (ops.getD j ⟨0, 0, 0, 0, .empty, [], 0⟩).k, .int .i64 (ops.getD j ⟨0, 0, 0, 0, .empty, [], 0⟩).v, .int .i64 (ops.getD j ⟨0, 0, 0, 0, .empty, [], 0⟩).a, .string (ops.getD j ⟨0, 0, 0, 0, .empty, [], 0⟩).s, kv] ∧
      KV W (lf j) (ops.getD j ⟨0, 0, 0, 0, .empty, [], 0⟩).zs (ops.getD j ⟨0, 0, 0, 0, .empty, [], 0⟩).m kv) ∧
    ((v = .slice none 0 0 ∧ ops = [] ∧ m = 0) ∨ ∃ a c T fr, v = .slice (some a) m ops.length ∧ a.spot = none ∧ W.heap[a.block]? = some (.cells c T fr) ∧ ∀ i, i < vs.length → W.cell? (a.add i) = vs[i]?)
theorem in_ops {b0 : Nat} {v : Value} {d : DataW H} {ps : List MemPlace} (hval : Value.okWide Try.prog W .any b0 50 v) (h0 : DataW.Trod enc Try.prog W 0 (fun _ => true) true 50 v d ps) : ∃ ops m lf, OpsIn W v ops m lf := by
  obtain ⟨a0, len, cap, rfl⟩ := okWide_slice Try.underlying50 hval
  obtain ⟨fuel, hf⟩ := h0
  rcases open_slice Try.underlying50 hf with ⟨hcs, hx⟩ | ⟨a, len', cap', m, n', D, Pl, hcs, _, hl, hm, hmm, hx, hall⟩
  · simp only [Value.cells] at hcs
    cases hcs
    exact ⟨[], 0, fun _ => ⟨none, 0, 0, false, none⟩, Nat.le_refl _, fun j hj => (by simp at hj), fun _ => rfl, [], rfl, fun j hj => (by simp at hj), .inl ⟨rfl, rfl, rfl⟩⟩
  · simp only [Value.cells] at hcs
    cases hcs
    simp only [if_true] at hmm
    subst hmm
    obtain ⟨hs, c, T, fr, hb⟩ := spot_none Try.underlying50 hval
    have c55 : Try.prog.cellsOf 55 = 6 := by kernel_rfl
    rw [c55] at hall
    have each : ∀ j, ∃ (o : OpV) (l : Loc) (kv : Value), l.sh = none ∧ (j < m → W.cells? 0 (a.add (j * 6)) 6 = some [.int .u8 o.u, .int .i64 o.k, .int .i64 o.v, .int .i64 o.a, .string o.s, kv] ∧ KV W l o.zs o.m kv ∧ o.rng) := by
      intro j
      by_cases hj : j < m
      · obtain ⟨cs', g1, g2⟩ := hall j hj
        obtain ⟨u, k, v, q0, s, kv, n'', y, rfl, hu, hi, hi2, hi3, hk⟩ := op_cells g2
        obtain ⟨l, zs, q, hkv⟩ := in_kv hk
        exact ⟨⟨u, k, v, q0, s, zs, q⟩, l, kv, hkv.sh, fun _ => ⟨g1, hkv, by simpa [Lit.wf, IntKind.min, IntKind.max, IntKind.signed, IntKind.bits] using hu, by simpa [Lit.wf, IntKind.min, IntKind.max, IntKind.signed, IntKind.bits] using hi, by simpa [Lit.wf, IntKind.min, IntKind.max, IntKind.signed, IntKind.bits] using hi2, by simpa [Lit.wf, IntKind.min, IntKind.max, IntKind.signed, IntKind.bits] using hi3⟩⟩
      · exact ⟨⟨0, 0, 0, 0, .empty, [], 0⟩, ⟨none, 0, 0, false, none⟩, .bool false, rfl, fun h => absurd h hj⟩
    obtain ⟨of, hof⟩ := Classical.axiomOfChoice each
    obtain ⟨lf, hlf⟩ := Classical.axiomOfChoice hof
    obtain ⟨kf, hkf⟩ := Classical.axiomOfChoice hlf
    have hget : ∀ j, j < m → ((List.range m).map of).getD j ⟨0, 0, 0, 0, .empty, [], 0⟩ = of j := fun j hj => by
      rw [List.getD_eq_getElem?_getD, List.getElem?_map, List.getElem?_range hj]; rfl
    refine ⟨(List.range m).map of, len, lf, by simp; exact hl, fun j hj => by rw [hget j (by simpa using hj)]; exact ((hkf j).2 (by simpa using hj)).2.2, fun j => (hkf j).1, ((List.range m).map fun j => [Value.int .u8 (of j).u, .int .i64 (of j).k, .int .i64 (of j).v, .int .i64 (of j).a, .string (of j).s, kf j]).flatten, ?_, ?_, .inr ⟨a, c, T, fr, by simp, hs, hb, ?_⟩⟩
    · rw [flat_len (z := 6) (by intro s hs; simp at hs; obtain ⟨j, _, rfl⟩ := hs; rfl)]; simp
    · intro j hj
      have hj' : j < m := by simpa using hj
      refine ⟨kf j, ?_, ?_⟩
      · rw [flat_take (z := 6) (by intro s hs; simp at hs; obtain ⟨j, _, rfl⟩ := hs; rfl) (by simpa using hj'), hget j hj', List.getD_eq_getElem?_getD, List.getElem?_map, List.getElem?_range hj']; rfl
      · rw [hget j hj']; exact ((hkf j).2 hj').2.1
    · intro i hi
      rw [flat_len (z := 6) (by intro s hs; simp at hs; obtain ⟨j, _, rfl⟩ := hs; rfl)] at hi
      simp only [List.length_map, List.length_range] at hi
      have hj : i / 6 < m := by omega
      have h1 := ((hkf (i / 6)).2 hj).1
      have h2 := flat_take (z := 6) (l := (List.range m).map fun j => [Value.int .u8 (of j).u, .int .i64 (of j).k, .int .i64 (of j).v, .int .i64 (of j).a, .string (of j).s, kf j]) (j := i / 6) (by intro s hs; simp at hs; obtain ⟨j, _, rfl⟩ := hs; rfl) (by simpa using hj)
      rw [List.getD_eq_getElem?_getD, List.getElem?_map, List.getElem?_range hj] at h2
      simp only [Option.map_some, Option.getD_some] at h2
      have h3 : (((List.range m).map fun j => [Value.int .u8 (of j).u, .int .i64 (of j).k, .int .i64 (of j).v, .int .i64 (of j).a, .string (of j).s, kf j]).flatten)[i]? = [Value.int .u8 (of (i / 6)).u, .int .i64 (of (i / 6)).k, .int .i64 (of (i / 6)).v, .int .i64 (of (i / 6)).a, .string (of (i / 6)).s, kf (i / 6)][i % 6]? := by
        rw [← h2, List.getElem?_take, if_pos (Nat.mod_lt _ (by decide)), List.getElem?_drop]
        congr 1; omega
      rw [h3]
      have h4 := cells?_get h1 (i % 6) (Nat.mod_lt _ (by decide))
      rw [← h4]
      rw [cell_at hs hb]
      obtain ⟨s1, s2, s3⟩ := add_spot hs (i / 6 * 6)
      rw [cell_at (a := a.add (i / 6 * 6)) s1 (by rw [s2]; exact hb), s3]
      congr 1; omega
/-- A row that came in, and where it lies. -/
theorem row_loc {a : Addr} {len cap z : Nat} {c : Array Value} {T : TypeId} {fr : Nat × Nat} {vs : List Value} (hz0 : 0 < z) (hs : a.spot = none) (hb : W.heap[a.block]? = some (.cells c T fr)) (hl : len ≤ cap)
    (hvs : vs.length = cap * z) (hcell : ∀ i, i < vs.length → W.cell? (a.add i) = vs[i]?) :
    ∃ l : Loc, (∀ (ρ : Nat → Loc) (b : Body), (∀ es, b ≠ .mp es) → All2 (crel ρ) b.cells vs → ObjOK ρ W l ⟨false, b⟩) ∧ (∀ k, l.blk = some k → k < W.heap.size) ∧ slrel l 0 len z (.slice (some a) len cap) ∧ l.sh = none := by
  have hblk : a.block < W.heap.size := (Array.getElem?_eq_some_iff.1 hb).1
  have hsz : vs.length ≠ 0 → a.off + vs.length ≤ c.size := by
    intro h
    have := hcell (vs.length - 1) (by omega)
    rw [cell_at hs hb, List.getElem?_eq_getElem (by omega)] at this
    have := (Array.getElem?_eq_some_iff.1 this).1
    omega
  have hobj : ∀ (ρ : Nat → Loc) (l : Loc) (b : Body), l.ex = false → (∀ es, b ≠ .mp es) → RowOK ρ W l false b.cells → ObjOK ρ W l ⟨false, b⟩ := fun ρ l b hx hnm h => ObjOK.mk hnm h (exOK_ro hx)
  by_cases h00 : vs.length = 0
  · refine ⟨⟨some a.block, 0, 0, false, none⟩, fun ρ b hnm hcr => hobj ρ _ b rfl hnm ?_, fun k hk => (by cases hk; exact hblk), ?_, rfl⟩
    · have hlen := hcr.length
      refine ⟨c, T, fr, hb, Nat.zero_le _, by rw [hlen, h00]; exact Nat.le_refl _, ?_, fun h => by cases h⟩
      intro j x hj
      have : j < b.cells.length := (List.getElem?_eq_some_iff.1 hj).1
      omega
    · have hc : cap = 0 := by
        rcases Nat.mul_eq_zero.1 (hvs ▸ h00) with h | h
        · exact h
        · omega
      refine ⟨cap, a.off, hl, ⟨by simp [hc], fun e => by cases e⟩, fun h => absurd hc h, ?_⟩
      cases a; cases hs; rfl
  · refine ⟨⟨some a.block, a.off, cap * z, false, none⟩, fun ρ b hnm hcr => hobj ρ _ b rfl hnm ?_, fun k hk => (by cases hk; exact hblk), ?_, rfl⟩
    · have hlen := hcr.length
      refine ⟨c, T, fr, hb, by simp only; have := hsz h00; omega, by simp only; omega, ?_, fun h => by cases h⟩
      intro j x hj
      have hj' : j < vs.length := by rw [← hlen]; exact (List.getElem?_eq_some_iff.1 hj).1
      obtain ⟨y, hy, hr⟩ := hcr.get hj
      exact ⟨y, by rw [← cell_at hs hb, hcell j hj', hy], hr⟩
    · refine ⟨cap, a.off, hl, ⟨by simp, fun e => by cases e⟩, fun h => by simp, ?_⟩
      cases a; cases hs; rfl
/-- What lies outside: the slices in the calls (A: which argument), and the arguments' rows (behind A = 3). -/
def argX (opsA : Nat → List OpV) (rb : Nat → Option Body) (i : Nat) : Option SO :=
  if i < 1000 then none else if (i - 1000) % 4 = 3 then (rb ((i - 1000) / 4)).map (fun b => ⟨false, b⟩)
  else if (i - 1000) / 4 < (opsA ((i - 1000) % 4)).length then some ⟨false, .ints .i64 ((opsA ((i - 1000) % 4)).getD ((i - 1000) / 4) ⟨0, 0, 0, 0, .empty, [], 0⟩).zs⟩ else none
def argR (lfA : Nat → Nat → Loc) (lr : Nat → Loc) (i : Nat) : Loc := if i < 1000 then ⟨none, 0, 0, false, none⟩ else if (i - 1000) % 4 = 3 then lr ((i - 1000) / 4) else lfA ((i - 1000) % 4) ((i - 1000) / 4)
theorem argX_at {opsA : Nat → List OpV} {rb : Nat → Option Body} {j A : Nat} (hA : A < 3) (hj : j < (opsA A).length) : argX opsA rb (1000 + 4 * j + A) = some ⟨false, .ints .i64 ((opsA A).getD j ⟨0, 0, 0, 0, .empty, [], 0⟩).zs⟩ := by
  unfold argX
  rw [if_neg (by omega), show (1000 + 4 * j + A - 1000) / 4 = j by omega, show (1000 + 4 * j + A - 1000) % 4 = A by omega, if_neg (by omega), if_pos hj]
theorem argX_row {opsA : Nat → List OpV} {rb : Nat → Option Body} {j : Nat} {b : Body} (h : rb j = some b) : argX opsA rb (1003 + 4 * j) = some ⟨false, b⟩ := by
  unfold argX
  rw [if_neg (by omega), show (1003 + 4 * j - 1000) / 4 = j by omega, if_pos (by omega), h]; rfl
theorem argR_at {lfA : Nat → Nat → Loc} {lr : Nat → Loc} {j A : Nat} (hA : A < 3) : argR lfA lr (1000 + 4 * j + A) = lfA A j := by
  unfold argR
  rw [if_neg (by omega), show (1000 + 4 * j + A - 1000) / 4 = j by omega, show (1000 + 4 * j + A - 1000) % 4 = A by omega, if_neg (by omega)]
theorem argR_row {lfA : Nat → Nat → Loc} {lr : Nat → Loc} {j : Nat} : argR lfA lr (1003 + 4 * j) = lr j := by
  unfold argR
  rw [if_neg (by omega), show (1003 + 4 * j - 1000) / 4 = j by omega, if_pos (by omega)]
theorem hrel_args {opsA : Nat → List OpV} {lfA : Nat → Nat → Loc} {vA : Nat → Value} {mA : Nat → Nat} {rb : Nat → Option Body} {lr : Nat → Loc} (h : ∀ A, A < 3 → OpsIn W (vA A) (opsA A) (mA A) (lfA A))
    (hr : ∀ j b, rb j = some b → b.lt 1 = true ∧ (∀ k, (lr j).blk = some k → k < W.heap.size) ∧ ObjOK (argR lfA lr) W (lr j) ⟨false, b⟩) (hsh : ∀ j, (lr j).sh = none) (hsf : ∀ A j, (lfA A j).sh = none) :
    HRel (· < W.heap.size) W (argR lfA lr) 1 ⟨[], argX opsA rb⟩ W := by
  have hx : ∀ i s, argX opsA rb i = some s → 1000 ≤ i ∧ s.wr = false ∧ s.b.lt 1 = true ∧ ObjOK (argR lfA lr) W (argR lfA lr i) s ∧ ∀ k, (argR lfA lr i).blk = some k → k < W.heap.size := by
    intro i s hs
    unfold argX at hs
    split at hs
    · cases hs
    · rename_i hi
      split at hs
      · rename_i h3
        rw [Option.map_eq_some_iff] at hs
        obtain ⟨b, hb, rfl⟩ := hs
        obtain ⟨e1, e2, e3⟩ := hr _ b hb
        have e : argR lfA lr i = lr ((i - 1000) / 4) := by unfold argR; rw [if_neg hi, if_pos h3]
        rw [e]
        exact ⟨by omega, rfl, e1, e3, e2⟩
      · rename_i h3
        split at hs
        · rename_i hj
          cases hs
          obtain ⟨vs, _, hv, _⟩ := (h ((i - 1000) % 4) (by have := Nat.mod_lt (i - 1000) (by decide : 0 < 4); omega)).ok
          obtain ⟨kv, _, hk⟩ := hv _ hj
          have e : argR lfA lr i = lfA ((i - 1000) % 4) ((i - 1000) / 4) := by unfold argR; rw [if_neg hi, if_neg h3]
          rw [e]
          exact ⟨by omega, rfl, rfl, hk.row _, hk.live⟩
        · cases hs
  have hg : ∀ i, Hp.get ⟨[], argX opsA rb⟩ i = argX opsA rb i := fun i => rfl
  refine { os := rfl, tape := rfl, output := rfl, size := Nat.le_refl _, keep := fun _ _ => rfl, old := fun _ h => h, nil := ⟨rfl, rfl⟩, pos := by omega, obj := ?_, lt := ?_, own := ?_, inj := ?_, live := ?_, xok := ?_, shk := ShKeep.refl _, shp := fun i T c b e1 _ => (by
    unfold argR at e1
    split at e1
    · cases e1
    split at e1
    · rw [hsh] at e1; cases e1
    · rw [hsf] at e1; cases e1) }
  · exact fun i s hs => (hx i s (hg i ▸ hs)).2.2.2.1
  · intro i s hs
    obtain ⟨h1, _, h2, _, _⟩ := hx i s (hg i ▸ hs)
    exact ⟨by unfold idOK; simp; omega, h2⟩
  · intro i s b hs hw
    rw [(hx i s (hg i ▸ hs)).2.1] at hw; cases hw
  · intro i j s s' b _ hs _ hw
    rw [(hx i s (hg i ▸ hs)).2.1] at hw; cases hw
  · exact fun i s b hs hb => (hx i s (hg i ▸ hs)).2.2.2.2 b hb
  · intro i s hs
    obtain ⟨h1, h2, h3, _, _⟩ := hx i s hs
    exact ⟨h1, h2, h3, rfl⟩
theorem orow_lt {A n : Nat} : ∀ {l : List OpV} {j : Nat}, (orow A j l).all (ltB n) = true
  | [], _ => rfl
  | o :: r, j => by
    simp only [orow, List.all_append, orow_lt, Bool.and_true, ocell, List.all_cons, List.all_nil, ltB, ltA, idOK]
    simp; omega
/-- The row of the calls. -/
theorem ops_loc {A m : Nat} {v : Value} {ops : List OpV} {lf : Nat → Loc} (h : OpsIn W v ops m lf) :
    ∃ l : Loc, (∀ ρ : Nat → Loc, (∀ j, ρ (1000 + 4 * j + A) = lf j) → ObjOK ρ W l ⟨false, .sv (orow A 0 ops)⟩) ∧ (∀ k, l.blk = some k → k < W.heap.size) ∧ slrel l 0 m 6 v ∧ l.sh = none := by
  obtain ⟨hm, _, _, vs, hvl, hv, hcase⟩ := h
  rcases hcase with ⟨rfl, rfl, rfl⟩ | ⟨a, c, T, fr, rfl, hs, hb, hcell⟩
  · exact ⟨⟨none, 0, 0, false, none⟩, fun ρ _ => ⟨rfl, exOK_ro rfl⟩, fun k hk => (by cases hk), ⟨rfl, .inl rfl⟩, rfl⟩
  · obtain ⟨l, g1, g2, g3, g4⟩ := row_loc (vs := vs) (z := 6) (by decide) hs hb hm (by omega) hcell
    refine ⟨l, fun ρ hρ => g1 ρ _ (by simp) ?_, g2, g3, g4⟩
    refine All2.of_get (by simp only [Body.cells]; rw [orow_len, hvl]) fun i x hx => ?_
    simp only [Body.cells] at hx
    have hi : i < ops.length * 6 := by rw [← orow_len (A := A) (l := ops) (j := 0)]; exact (List.getElem?_eq_some_iff.1 hx).1
    have hj : i / 6 < ops.length := by omega
    obtain ⟨kv, h1, h2⟩ := hv (i / 6) hj
    have h3 := orow_at (A := A) (o0 := ⟨0, 0, 0, 0, .empty, [], 0⟩) (l := ops) (j0 := 0) hj
    have e1 : (orow A 0 ops)[i]? = (ocell (1000 + 4 * (0 + i / 6) + A) (ops.getD (i / 6) ⟨0, 0, 0, 0, .empty, [], 0⟩))[i % 6]? := by
      rw [← h3, List.getElem?_take, if_pos (Nat.mod_lt _ (by decide)), List.getElem?_drop]; congr 1; omega
    have e2 : vs[i]? = [Value.int .u8 (ops.getD (i / 6) ⟨0, 0, 0, 0, .empty, [], 0⟩).u, .int .i64 (ops.getD (i / 6) ⟨0, 0, 0, 0, .empty, [], 0⟩).k, .int .i64 (ops.getD (i / 6) ⟨0, 0, 0, 0, .empty, [], 0⟩).v, .int .i64 (ops.getD (i / 6) ⟨0, 0, 0, 0, .empty, [], 0⟩).a, .string (ops.getD (i / 6) ⟨0, 0, 0, 0, .empty, [], 0⟩).s, kv][i % 6]? := by
      rw [← h1, List.getElem?_take, if_pos (Nat.mod_lt _ (by decide)), List.getElem?_drop]; congr 1; omega
    rw [e1] at hx
    rw [e2]
    have hid : ρ (1000 + 4 * (0 + i / 6) + A) = lf (i / 6) := by rw [Nat.zero_add]; exact hρ _
    generalize ops.getD (i / 6) ⟨0, 0, 0, 0, .empty, [], 0⟩ = o at hx h2 ⊢
    have h4 : i % 6 = 0 ∨ i % 6 = 1 ∨ i % 6 = 2 ∨ i % 6 = 3 ∨ i % 6 = 4 ∨ i % 6 = 5 := by omega
    rcases h4 with h4 | h4 | h4 | h4 | h4 | h4 <;> rw [h4] at hx ⊢ <;> simp only [ocell, List.getElem?_cons_zero, List.getElem?_cons_succ, Option.some.injEq] at hx ⊢ <;> subst hx
    · exact ⟨_, rfl, rfl⟩
    · exact ⟨_, rfl, rfl⟩
    · exact ⟨_, rfl, rfl⟩
    · exact ⟨_, rfl, rfl⟩
    · exact ⟨_, rfl, rfl⟩
    · refine ⟨_, rfl, ?_⟩
      show slrel (ρ (1000 + 4 * (0 + i / 6) + A)) 0 o.m 1 kv
      rw [hid]; exact h2.sl
end Go.Sx
