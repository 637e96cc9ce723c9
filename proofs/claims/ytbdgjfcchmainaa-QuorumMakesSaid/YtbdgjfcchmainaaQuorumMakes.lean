/- QuorumMakes: for all IDs, every need and every set the law answers true, and its arguments read as they did. -/
import Derived.Test.YtbdgjfcchmainaaRows
import Derived.Test.YtbdgjfcchmainaaQuD

namespace Go.Proofs.Ytbdgjfcchmainaa.quorumMakes
open Go.ChangeShapes Go.WideShapes Go.ChangeAt Go.RowKit Go.Sx
set_option linter.unusedVariables false
set_option maxRecDepth 100000
theorem own : ownKnob Try.prog.godebug = none := by kernel_rfl
theorem contract (H : Type) (enc : TypeId × Value → H) (W : World) (base : Nat) (args : Array Value) (ds gs : List (DataW H)) (before : List MemPlace)
    (hval : ∀ (j : Nat) t v, Try.f3.params[j]? = some t → args[j]? = some v → Value.okWide Try.prog W .any base t v)
    (hW : DataW.Whole enc Try.prog Try.f3.params.toList Rows.quorumMakesSpec.vars false W args.toList ds gs before) :
    Calls Try.prog 3 args W fun e W' => ∃ v, e = .returned v ∧ Rows.quorumMakesSpec.post enc Try.prog Try.f3 false true false false W args v W' := by
  have hW' := hW
  obtain ⟨p, q, hA0, hV, rfl, hfz, hnd⟩ := hW
  have hA : DataW.TrodAll enc Try.prog W 0 (fun _ => true) true Try.f3.params.toList args.toList ds p := hA0
  rw [Try.params3] at hA hval
  obtain ⟨v0, vs0, d0, ds0, p0, q0, hargs, rfl, rfl, h0, r0⟩ := trodAll_cons hA
  obtain ⟨v1, vs1, d1, ds1, p1, q1, rfl, rfl, rfl, h1, r1⟩ := trodAll_cons r0
  obtain ⟨v2, vs2, d2, ds2, p2, q2, rfl, rfl, rfl, h2, r2⟩ := trodAll_cons r1
  obtain ⟨rfl, rfl, rfl⟩ := trodAll_nil r2
  obtain rfl : args = #[v0, v1, v2] := by cases args; simp_all
  obtain ⟨rfl, rfl⟩ := trodVars_none hV
  obtain ⟨l1, ss, m, hH1, hro1, hsl1, hm1, _⟩ := in_strs Try.underlying22 Try.underlying9 (by kernel_rfl) (hval 0 22 v0 rfl rfl) h0 (hrel_init W) (by decide) (fun i s h => (by cases h))
  obtain ⟨i1, rfl, rfl, rfl, w1⟩ := open_int Try.underlying3 (hval 1 3 v1 rfl rfl) h1
  obtain ⟨M, kv, y, qs, rfl, hM, hkv, hy, rfl⟩ := set_cells (hval 2 24 v2 rfl rfl) h2
  obtain ⟨l2, tt, k, hH2, _, hsl2, hm2, _⟩ := in_strs Try.underlying22 Try.underlying9 (by kernel_rfl) hkv hy hH1 (by decide) hro1
  have hc := law_below (xs := [v0, .int .i64 i1, .agg #[kv, .int .i64 M]]) (okT.spec tQMakes (makesW (x := fun _ => none) (m := m) (k := k) (ss := ss) (tt := tt) (need := i1) (nd := M) hm1 hm2)) hH2 ⟨hsl1, rfl, ⟨_, rfl, hsl2, rfl, trivial⟩, trivial⟩ (by simp [ltT, ltC, ltB, ltA, idOK])
  refine hc.mono fun e W' ⟨he, hg⟩ => ?_
  exact ⟨_, he, law_post (tb := 4) hW' rfl rfl (by kernel_rfl) (by kernel_rfl) rfl Try.underlying4 hg⟩
theorem lifted (os : Os) (started : os.Started) (H : Type) (enc : TypeId × Value → H) :
    ReturnsInHanded {} Try.checked os 3 .any (Rows.quorumMakesSpec.pre6 enc Try.prog Try.f3 Rows.quorumMakesRow.domain false) (Rows.quorumMakesSpec.post enc Try.prog Try.f3 false true false false) := by
  refine returnsInHanded_of_change (C := Try.checked) own started (by kernel_rfl) Try.func3
    (ChangeSpec.witness6 (enc := enc) (C := Try.checked) false ⟨#[], #[.slice none 0 0, .int .i64 0, .agg #[.slice none 0 0, .int .i64 0]], []⟩ 8 (by kernel_rfl) (by kernel_rfl) (by kernel_rfl) (by kernel_rfl)) ?_
  intro W base args ds gs before hval hW _ _
  exact contract H enc W base args ds gs before hval hW
theorem over : Rows.quorumMakesRow.holds Try.pinned (OpenSpec.ofChange Rows.quorumMakesSpec) :=
  OpenClaim.holds_of_wide 3 Try.f3 rfl rfl rfl rfl rfl rfl rfl ⟨rfl, rfl, rfl, rfl, rfl⟩ rfl rfl rfl rfl rfl (by kernel_rfl) Try.func3 (by kernel_rfl)
    (of_decide_eq_true (by kernel_rfl)) (by unfold Func.isWrapper; first | (rw [if_pos (by decide +kernel)]; kernel_rfl) | (rw [if_neg (by decide +kernel)]; exact ⟨rfl, rfl⟩))
    (fun os started H enc _ => lifted os started H enc)
theorem proved : Rows.QuorumMakesSaid :=
  over
end Go.Proofs.Ytbdgjfcchmainaa.quorumMakes
