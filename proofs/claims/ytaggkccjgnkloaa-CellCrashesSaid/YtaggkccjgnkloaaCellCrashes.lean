/- CellCrashes: for every texts, falls and fate the law answers true. -/
import Derived.Test.YtaggkccjgnkloaaRows
import Derived.Test.YtaggkccjgnkloaaCelF

namespace Go.Proofs.Ytaggkccjgnkloaa.cellCrashes
open Go.ChangeShapes Go.WideShapes Go.ChangeAt Go.RowKit Go.Sx
set_option linter.unusedVariables false
set_option maxRecDepth 100000
theorem own : ownKnob Try.prog.godebug = none := by kernel_rfl
theorem contract (H : Type) (enc : TypeId × Value → H) (W : World) (base : Nat) (args : Array Value) (ds gs : List (DataW H)) (before : List MemPlace)
    (hval : ∀ (j : Nat) t v, Try.f5.params[j]? = some t → args[j]? = some v → Value.okWide Try.prog W .any base t v)
    (hW : DataW.Whole enc Try.prog Try.f5.params.toList Rows.cellCrashesSpec.vars false W args.toList ds gs before) :
    Calls Try.prog 5 args W fun e W' => ∃ v, e = .returned v ∧ Rows.cellCrashesSpec.post enc Try.prog Try.f5 false true false false W args v W' := by
  have hW' := hW
  obtain ⟨p, q, hA0, hV, rfl, hfz, hnd⟩ := hW
  have hA : DataW.TrodAll enc Try.prog W 0 (fun _ => true) true Try.f5.params.toList args.toList ds p := hA0
  rw [Try.params5] at hA hval
  obtain ⟨v0, vs0, d0, ds0, p0, q0, hargs, rfl, rfl, h0, r0⟩ := trodAll_cons hA
  obtain ⟨v1, vs1, d1, ds1, p1, q1, rfl, rfl, rfl, h1, r1⟩ := trodAll_cons r0
  obtain ⟨v2, vs2, d2, ds2, p2, q2, rfl, rfl, rfl, h2, r2⟩ := trodAll_cons r1
  obtain ⟨rfl, rfl, rfl⟩ := trodAll_nil r2
  obtain rfl : args = #[v0, v1, v2] := by cases args; simp_all
  obtain ⟨rfl, rfl⟩ := trodVars_none hV
  obtain ⟨l1, ss, m1, hH1, hro1, hsl1, hm1, _⟩ := in_strs Try.underlying33 Try.underlying9 (by kernel_rfl) (hval 0 33 v0 rfl rfl) h0 (hrel_init W) (by decide) (fun i s h => (by cases h))
  obtain ⟨l2, zs, m2, hH2, hro2, hsl2, hm2, hws, _⟩ := in_ints2 Try.underlying31 Try.underlying5 (by kernel_rfl) (hval 1 31 v1 rfl rfl) h1 hH1 (by decide) hro1
  obtain ⟨kv, l3, ks, m3, rfl, hH3, hsl3, hm3⟩ := in_fate (hval 2 39 v2 rfl rfl) h2 hH2 (by decide) hro2
  have hc := law_below (xs := [v0, v1, .agg #[kv]]) (okT.spec tCellCrashes (wCrashes (x := fun _ => none) hm1 hm2 hm3 (fun z hz => by
    have := hws z hz
    simpa [Lit.wf, IntKind.min, IntKind.max, IntKind.signed, IntKind.bits] using this))) hH3 ⟨hsl1, hsl2, ⟨_, rfl, hsl3, trivial⟩, trivial⟩ (by simp [ltT, ltC, ltB, ltA, idOK])
  refine hc.mono fun e W' ⟨he, hg⟩ => ?_
  exact ⟨_, he, law_post (tb := 4) hW' rfl rfl (by kernel_rfl) (by kernel_rfl) rfl Try.underlying4 hg⟩
theorem lifted (os : Os) (started : os.Started) (H : Type) (enc : TypeId × Value → H) :
    ReturnsInHanded {} Try.checked os 5 .any (Rows.cellCrashesSpec.pre6 enc Try.prog Try.f5 Rows.cellCrashesRow.domain false) (Rows.cellCrashesSpec.post enc Try.prog Try.f5 false true false false) := by
  refine returnsInHanded_of_change (C := Try.checked) own started (by kernel_rfl) Try.func5
    (ChangeSpec.witness6 (enc := enc) (C := Try.checked) false ⟨#[], #[.slice none 0 0, .slice none 0 0, .agg #[.slice none 0 0]], []⟩ 8 (by kernel_rfl) (by kernel_rfl) (by kernel_rfl) (by kernel_rfl)) ?_
  intro W base args ds gs before hval hW _ _
  exact contract H enc W base args ds gs before hval hW
theorem over : Rows.cellCrashesRow.holds Try.pinned (OpenSpec.ofChange Rows.cellCrashesSpec) :=
  OpenClaim.holds_of_wide 5 Try.f5 rfl rfl rfl rfl rfl rfl rfl ⟨rfl, rfl, rfl, rfl, rfl⟩ rfl rfl rfl rfl rfl (by kernel_rfl) Try.func5 (by kernel_rfl)
    (of_decide_eq_true (by kernel_rfl)) (by unfold Func.isWrapper; first | (rw [if_pos (by decide +kernel)]; kernel_rfl) | (rw [if_neg (by decide +kernel)]; exact ⟨rfl, rfl⟩))
    (fun os started H enc _ => lifted os started H enc)
theorem proved : Rows.CellCrashesSaid :=
  over
end Go.Proofs.Ytaggkccjgnkloaa.cellCrashes
