/- BillReads: for every text, bill and place of bulk at most 1048576 the law answers true, and its arguments read as they did. -/
import Derived.Test.YtbjfkgjijddlpaaRows
import Derived.Test.YtbjfkgjijddlpaaBillB
import Derived.Test.YtbjfkgjijddlpaaBillC
import Derived.Test.YtbjfkgjijddlpaaBulk15

namespace Go.Proofs.Ytbjfkgjijddlpaa.billReads
open Go.ChangeShapes Go.WideShapes Go.ChangeAt Go.RowKit Go.Sx
set_option linter.unusedVariables false
set_option maxRecDepth 100000
theorem bulk_szB {H : Type} : ∀ l : List ByteArray, Rows.uptoBulkAll (strs (H := H) l) ≤ 1048576 → szB l ∧ l.length ≤ 1048576
  | [], _ => ⟨fun s hs => (by cases hs), by simp⟩
  | s :: l, h => by
    have e : Rows.uptoBulkAll (strs (H := H) (s :: l)) = s.size + 1 + Rows.uptoBulkAll (strs (H := H) l) := by
      simp only [strs, List.map_cons, Rows.uptoBulkAll, Rows.uptoBulk, Array.length_toList]; rfl
    have ih := bulk_szB (H := H) l (by omega)
    have il := bulks.length_le (strs (H := H) l)
    simp only [strs, List.length_map] at il
    refine ⟨fun t ht => ?_, by simp only [strs] at e h ⊢; simp only [List.length_cons]; omega⟩
    rcases List.mem_cons.1 ht with rfl | ht
    · omega
    · exact ih.1 t ht
theorem own : ownKnob Try.prog.godebug = none := by kernel_rfl
theorem contract (H : Type) (enc : TypeId × Value → H) (W : World) (base : Nat) (args : Array Value) (ds gs : List (DataW H)) (before : List MemPlace)
    (hval : ∀ (j : Nat) t v, Try.f5.params[j]? = some t → args[j]? = some v → Value.okWide Try.prog W .any base t v)
    (hW : DataW.Whole enc Try.prog Try.f5.params.toList Rows.billReadsSpec.vars false W args.toList ds gs before) (hk : Rows.uptoSmall H (ds ++ gs) = true) :
    Calls Try.prog 5 args W fun e W' => ∃ v, e = .returned v ∧ Rows.billReadsSpec.post enc Try.prog Try.f5 false true false false W args v W' := by
  have hW' := hW
  obtain ⟨p, q, hA0, hV, rfl, hfz, hnd⟩ := hW
  have hA : DataW.TrodAll enc Try.prog W 0 (fun _ => true) true Try.f5.params.toList args.toList ds p := hA0
  rw [Try.params5] at hA hval
  obtain ⟨v0, vs0, d0, ds0, p0, q0, hargs, rfl, rfl, h0, r0⟩ := trodAll_cons hA
  obtain ⟨v1, vs1, d1, ds1, p1, q1, rfl, rfl, rfl, h1, r1⟩ := trodAll_cons r0
  obtain ⟨v2, vs2, d2, ds2, p2, q2, rfl, rfl, rfl, h2, r2⟩ := trodAll_cons r1
  obtain ⟨rfl, rfl, rfl⟩ := trodAll_nil r2
  obtain rfl : args = #[v0, v1, v2] := by cases args; simp_all
  obtain ⟨rfl, rfl⟩ := trodVars_none hV
  obtain ⟨a0, rfl, rfl, rfl, w0⟩ := Go.ChangeMaps.open_string Try.underlying9 (hval 0 9 v0 rfl rfl) h0
  obtain ⟨M, N, C, kv, old, rt, y, qs, rfl, hM, hN, hC, hkv, hy, rfl⟩ := bill_cells (hval 1 24 v1 rfl rfl) h1
  obtain ⟨l, ss, m, hH, _, hsl, hm, hd⟩ := in_strs Try.underlying22 Try.underlying9 (by kernel_rfl) hkv hy (hrel_init W) (by decide) (fun i s h => (by cases h))
  obtain ⟨i2, rfl, rfl, rfl, w2⟩ := open_int Try.underlying3 (hval 2 3 v2 rfl rfl) h2
  have hB := bulks.bound hk
  have z0 : a0.size = a0.data.size := rfl
  have hs0 : a0.size ≤ 1048576 := by
    simp only [List.append_nil, Rows.uptoBulkAll, Rows.uptoBulk, Array.length_toList] at hB
    omega
  have hz : szB ss ∧ m ≤ 1048576 := by
    rcases hd with ⟨_, rfl⟩ | rfl
    · have : m = 0 := by simpa using hm
      subst this
      exact ⟨fun s hs => (by cases hs), by omega⟩
    · simp only [List.append_nil, Rows.uptoBulkAll, Rows.uptoBulk, Array.length_toList] at hB
      have b1 := bulk_szB (H := H) (ss.take m) (by omega)
      have b2 := bulk_szB (H := H) (ss.drop m) (by omega)
      refine ⟨fun s hs => ?_, by have := b1.2; rw [List.length_take] at this; omega⟩
      rw [← List.take_append_drop m ss, List.mem_append] at hs
      exact hs.elim (b1.1 s) (b2.1 s)
  have hc := law_below (xs := [.string a0, .agg #[.int .i64 M, .int .i64 N, .int .i64 C, .string old, .string rt, kv], .int .i64 i2]) (okT.spec tBillReads (billReadsW (x := fun _ => none) (ver := M) (sz := N) (ch := C) (m := m) (ss := ss) (h := old) (t := rt) (i := i2) (s := a0) hm hz.2 hz.1 (by omega))) hH ⟨rfl, ⟨_, rfl, rfl, rfl, rfl, rfl, rfl, hsl, trivial⟩, rfl, trivial⟩ (by simp [blA, ltT, ltC, ltB, ltA, idOK])
  refine hc.mono fun e W' ⟨he, hg⟩ => ?_
  exact ⟨_, he, law_post (tb := 4) hW' rfl rfl (by kernel_rfl) (by kernel_rfl) rfl Try.underlying4 hg⟩
theorem lifted (os : Os) (started : os.Started) (H : Type) (enc : TypeId × Value → H) (F : Stop.Interp) :
    ReturnsInHanded {} Try.checked os 5 .any ((Rows.OpenSpec.upto Rows.billReadsSpec).pre6 enc Try.prog Try.f5 Rows.billReadsUptoRow.domain false) (((Rows.OpenSpec.upto Rows.billReadsSpec).at F).post enc Try.prog Try.f5 false true false false) := by
  refine returnsInHanded_of_cond (C := Try.checked) (s := Rows.OpenSpec.upto Rows.billReadsSpec) (k := Rows.uptoSmall) rfl own started (by kernel_rfl) Try.func5
    (OpenSpec.witness (enc := enc) (C := Try.checked) (s := Rows.OpenSpec.upto Rows.billReadsSpec) (k := Rows.uptoSmall) rfl false ⟨#[], #[.string ByteArray.empty, .agg #[.int .i64 0, .int .i64 0, .int .i64 0, .string ByteArray.empty, .string ByteArray.empty, .slice none 0 0], .int .i64 0], []⟩ 8 (by kernel_rfl) (by kernel_rfl) (by kernel_rfl)
      (x := ([.lit (.string []), .agg [.lit (.int .i64 0), .lit (.int .i64 0), .lit (.int .i64 0), .lit (.string []), .lit (.string []), .nil], .lit (.int .i64 0)], [], [])) (by kernel_rfl) rfl (by kernel_rfl)) ?_
  intro W base args ds gs before hval hW _ hk _
  exact contract H enc W base args ds gs before hval hW hk
theorem over : Rows.billReadsUptoRow.holds Try.pinned (Rows.OpenSpec.upto Rows.billReadsSpec) :=
  OpenClaim.holds_of_cond 5 Try.f5 rfl rfl rfl rfl rfl rfl rfl ⟨rfl, rfl, rfl, rfl, rfl⟩ rfl rfl rfl rfl rfl (by kernel_rfl) Try.func5 (by kernel_rfl)
    (of_decide_eq_true (by kernel_rfl)) (by unfold Func.isWrapper; first | (rw [if_pos (by decide +kernel)]; kernel_rfl) | (rw [if_neg (by decide +kernel)]; exact ⟨rfl, rfl⟩))
    (fun os started H enc _ F => lifted os started H enc F)
theorem proved : Rows.BillReadsUptoSaid :=
  over
end Go.Proofs.Ytbjfkgjijddlpaa.billReads
