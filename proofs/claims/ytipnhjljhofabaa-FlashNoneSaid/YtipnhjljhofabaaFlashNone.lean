/- FlashNone: for every call the law answers true, and its argument reads as it did. -/
import Derived.Test.YtipnhjljhofabaaRows
import Derived.Test.YtipnhjljhofabaaF3E

namespace Go.Proofs.Ytipnhjljhofabaa.flashNone
open Go.ChangeShapes Go.WideShapes Go.ChangeAt Go.RowKit Go.Sx
set_option linter.unusedVariables false
set_option maxRecDepth 100000
theorem own : ownKnob Try.prog.godebug = none := by kernel_rfl
theorem contract (H : Type) (enc : TypeId × Value → H) (W : World) (base : Nat) (args : Array Value) (ds gs : List (DataW H)) (before : List MemPlace)
    (hval : ∀ (j : Nat) t v, Try.f8.params[j]? = some t → args[j]? = some v → Value.okWide Try.prog W .any base t v)
    (hW : DataW.Whole enc Try.prog Try.f8.params.toList Rows.flashNoneSpec.vars false W args.toList ds gs before) :
    Calls Try.prog 8 args W fun e W' => ∃ v, e = .returned v ∧ Rows.flashNoneSpec.post enc Try.prog Try.f8 false true false false W args v W' := by
  have hW' := hW
  obtain ⟨p, q, hA0, hV, rfl, hfz, hnd⟩ := hW
  have hA : DataW.TrodAll enc Try.prog W 0 (fun _ => true) true Try.f8.params.toList args.toList ds p := hA0
  rw [Try.params8] at hA hval
  obtain ⟨v0, vs0, d0, ds0, p0, q0, hargs, rfl, rfl, h0, r0⟩ := trodAll_cons hA
  obtain ⟨rfl, rfl, rfl⟩ := trodAll_nil r0
  obtain rfl : args = #[v0] := by cases args; simp_all
  obtain ⟨rfl, rfl⟩ := trodVars_none hV
  have hv := hval 0 44 v0 rfl rfl
  obtain ⟨cs, rfl⟩ : ∃ cs, v0 = .agg cs := by
    have := hv
    simp only [Value.okWide, Try.underlying44] at this
    obtain ⟨cs, e, _⟩ := this
    exact ⟨cs, e⟩
  obtain ⟨fuel, hf⟩ := h0
  simp only [Value.cells] at hf
  obtain ⟨u, k, s, kv, n', y, hcs, _, _, hk⟩ := op_cells hf
  obtain ⟨l, zs, m, hH, _, hsl, _⟩ := in_ints Try.underlying33 Try.underlying3 (by kernel_rfl) (op_keep hv hcs) hk (hrel_init W) (by decide) (fun i s h => (by cases h))
  have hcs' : cs = [.int .u8 u, .int .i64 k, .string s, kv].toArray := by rw [← hcs]
  have hc := law_below (xs := [.agg cs]) (s8 (x := fun _ => none) (u := u) (k := k) (s := s) (m := m) (b0 := .ints .i64 zs)) hH ⟨⟨_, congrArg Value.agg hcs', rfl, rfl, rfl, hsl, trivial⟩, trivial⟩ rfl
  refine hc.mono fun e W' ⟨he, hg⟩ => ?_
  exact ⟨_, he, law_post (tb := 4) hW' rfl rfl (by kernel_rfl) (by kernel_rfl) rfl Try.underlying4 hg⟩
theorem lifted (os : Os) (started : os.Started) (H : Type) (enc : TypeId × Value → H) :
    ReturnsInHanded {} Try.checked os 8 .any (Rows.flashNoneSpec.pre6 enc Try.prog Try.f8 Rows.flashNoneRow.domain false) (Rows.flashNoneSpec.post enc Try.prog Try.f8 false true false false) := by
  refine returnsInHanded_of_change (C := Try.checked) own started (by kernel_rfl) Try.func8
    (ChangeSpec.witness6 (enc := enc) (C := Try.checked) false ⟨#[], #[.agg #[.int .u8 0, .int .i64 0, .string ByteArray.empty, .slice none 0 0]], []⟩ 8 (by kernel_rfl) (by kernel_rfl) (by kernel_rfl) (by kernel_rfl)) ?_
  intro W base args ds gs before hval hW _ _
  exact contract H enc W base args ds gs before hval hW
theorem over : Rows.flashNoneRow.holds Try.pinned (OpenSpec.ofChange Rows.flashNoneSpec) :=
  OpenClaim.holds_of_wide 8 Try.f8 rfl rfl rfl rfl rfl rfl rfl ⟨rfl, rfl, rfl, rfl, rfl⟩ rfl rfl rfl rfl rfl (by kernel_rfl) Try.func8 (by kernel_rfl)
    (of_decide_eq_true (by kernel_rfl)) (by unfold Func.isWrapper; first | (rw [if_pos (by decide +kernel)]; kernel_rfl) | (rw [if_neg (by decide +kernel)]; exact ⟨rfl, rfl⟩))
    (fun os started H enc _ => lifted os started H enc)
theorem proved : Rows.FlashNoneSaid :=
  over
end Go.Proofs.Ytipnhjljhofabaa.flashNone
