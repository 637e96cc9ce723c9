/- Trees: a proof that came in. -/
import Derived.Test.YthphefmkpcocdaaTreeB
import Derived.Test.YthphefmkpcocdaaRows

set_option linter.unusedVariables false
set_option linter.unusedSimpArgs false
set_option maxRecDepth 100000
namespace Go.Sx
open Go.Proofs Go.ChangeShapes Go.WideShapes Go.ChangeAt Go.RowKit
variable {H : Type} {enc : TypeId × Value → H} {W : World}

theorem asked_cells {b0 : Nat} {v : Value} {d : DataW H} {ps : List MemPlace} (hval : Value.okWide Try.prog W .any b0 37 v) (h : DataW.Trod enc Try.prog W 0 (fun _ => true) true 37 v d ps) :
    ∃ (M N : Int) (kv : Value) (old rt : ByteArray) (y : DataW H) (qs : List MemPlace), v = .agg #[.int .i64 M, .int .i64 N, kv, .string old, .string rt] ∧ (Lit.int .i64 M).wf = true ∧ (Lit.int .i64 N).wf = true ∧
      Value.okWide Try.prog W .any b0 22 kv ∧ DataW.Trod enc Try.prog W 0 (fun _ => true) true 22 kv y qs ∧ d = .agg [.lit (.int .i64 M), .lit (.int .i64 N), y, .lit (.string old.data.toList), .lit (.string rt.data.toList)] := by
  obtain ⟨cs, rfl, hsz⟩ := okWide_struct Try.underlying37 hval
  obtain ⟨fuel, h⟩ := h
  have hcells : (Value.agg cs).cells = cs := rfl
  rw [hcells] at h
  obtain ⟨xs, n, rfl, hx, hl, hxl, hf⟩ := DataW.trod_struct Try.underlying37 h
  have h0 := hf 0 { name := "M", type := 3, offset := 0, embedded := false, tag := "", pkgPath := "", byteOffset := 0 } rfl
  have h1 := hf 1 { name := "N", type := 3, offset := 1, embedded := false, tag := "", pkgPath := "", byteOffset := 8 } rfl
  have h2 := hf 2 { name := "Hashes", type := 22, offset := 2, embedded := false, tag := "", pkgPath := "", byteOffset := 16 } rfl
  have h3 := hf 3 { name := "Old", type := 9, offset := 3, embedded := false, tag := "", pkgPath := "", byteOffset := 40 } rfl
  have h4 := hf 4 { name := "Root", type := 9, offset := 4, embedded := false, tag := "", pkgPath := "", byteOffset := 56 } rfl
  have c3 : Try.prog.cellsOf 3 = 1 := by kernel_rfl
  have c9 : Try.prog.cellsOf 9 = 1 := by kernel_rfl
  have c22 : Try.prog.cellsOf 22 = 1 := by kernel_rfl
  have c37 : Try.prog.cellsOf 37 = 5 := by kernel_rfl
  rw [c37] at hl
  obtain ⟨cl, hcl⟩ : ∃ cl, cs.toList = cl := ⟨_, rfl⟩
  rw [hcl] at hl h0 h1 h2 h3 h4
  match cl, hl with
  | [a, b, c, d', e], _ =>
    match xs, hxl with
    | [y0, y1, y2, y3, y4], _ =>
      simp only [c3, c9, c22, List.drop_succ_cons, List.drop_zero, List.take_succ_cons, List.take_zero, List.getElem?_cons_succ, List.getElem?_cons_zero] at h0 h1 h2 h3 h4
      obtain ⟨M, e0, rfl, hM⟩ := DataW.trod_int Try.underlying3 h0
      obtain ⟨N, e1, rfl, hN⟩ := DataW.trod_int Try.underlying3 h1
      obtain ⟨old, e3, rfl, _⟩ := DataW.trod_string Try.underlying9 h3
      obtain ⟨rt, e4, rfl, _⟩ := DataW.trod_string Try.underlying9 h4
      simp only [List.cons.injEq, and_true] at e0 e1 e3 e4
      subst e0; subst e1; subst e3; subst e4
      obtain rfl : cs = #[.int .i64 M, .int .i64 N, c, .string old, .string rt] := by
        cases cs; simp only at hcl; rw [hcl]
      have hkv : Value.okWide Try.prog W .any b0 22 c := by
        simp only [Value.okWide, Try.underlying37] at hval
        obtain ⟨cs', e, hsz, ts, hts, _, hrow⟩ := hval
        cases e
        have ht : Try.prog.cellTypes Try.prog.depth 37 = some [3, 3, 22, 9, 9] := by kernel_rfl
        rw [ht] at hts
        cases hts
        obtain ⟨u, hu, hc⟩ := hrow 2 c rfl
        cases hu
        simp only [Value.okWide, Try.underlying22]
        exact hc
      obtain ⟨a0, len, cap, rfl⟩ := okWide_slice Try.underlying22 hkv
      have hx1 := (Prod.mk.injEq ..).mp hx
      exact ⟨M, N, _, old, rt, y2.1, y2.2, rfl, hM, hN, hkv, ⟨n, h2⟩, hx1.1⟩
end Go.Sx
