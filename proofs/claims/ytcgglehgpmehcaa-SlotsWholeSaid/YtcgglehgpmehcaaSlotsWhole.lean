/- SlotsWhole: for what stands, what is written, and every fate, the law answers true. -/
import Derived.Test.YtcgglehgpmehcaaRows
import Derived.Test.YtcgglehgpmehcaaSlotQ

namespace Go.Proofs.Ytcgglehgpmehcaa.slotsWhole
open Go.ChangeShapes Go.WideShapes Go.ChangeAt Go.RowKit Go.Sx
set_option linter.unusedVariables false
set_option maxRecDepth 100000
theorem own : ownKnob Try.prog.godebug = none := by kernel_rfl
theorem contract (H : Type) (enc : TypeId × Value → H) (W : World) (base : Nat) (args : Array Value) (ds gs : List (DataW H)) (before : List MemPlace)
    (hval : ∀ (j : Nat) t v, Try.f6.params[j]? = some t → args[j]? = some v → Value.okWide Try.prog W .any base t v)
    (hW : DataW.Whole enc Try.prog Try.f6.params.toList Rows.slotsWholeSpec.vars false W args.toList ds gs before) :
    Calls Try.prog 6 args W fun e W' => ∃ v, e = .returned v ∧ Rows.slotsWholeSpec.post enc Try.prog Try.f6 false true false false W args v W' := by
  have hW' := hW
  obtain ⟨p, q, hA0, hV, rfl, hfz, hnd⟩ := hW
  have hA : DataW.TrodAll enc Try.prog W 0 (fun _ => true) true Try.f6.params.toList args.toList ds p := hA0
  rw [Try.params6] at hA hval
  obtain ⟨v0, vs0, d0, ds0, p0, q0, hargs, rfl, rfl, h0, r0⟩ := trodAll_cons hA
  obtain ⟨v1, vs1, d1, ds1, p1, q1, rfl, rfl, rfl, h1, r1⟩ := trodAll_cons r0
  obtain ⟨rfl, rfl, rfl⟩ := trodAll_nil r1
  obtain rfl : args = #[v0, v1] := by cases args; simp_all
  obtain ⟨rfl, rfl⟩ := trodVars_none hV
  obtain ⟨V0, V1, V2, S, F, X0, X1, X2, rfl, hV0, hV1, hV2, hS, hF⟩ := over_val (hval 0 65 v0 rfl rfl) h0
  obtain ⟨kv, l1, zs, m1, rfl, hkv⟩ := fate_val (hval 1 53 v1 rfl rfl) h1
  have hH := hrel_args (W := W) (opsA := fun _ => []) (lfA := fun _ _ => ⟨none, 0, 0, false, none⟩)
    (vA := fun _ => .slice none 0 0) (mA := fun _ => 0)
    (rb := fun j => if j = 0 then some (.ints .i64 zs) else none)
    (lr := fun j => l1)
    (fun A hA => ⟨Nat.le_refl _, fun j hj => (by simp at hj), fun _ => rfl, [], rfl, fun j hj => (by simp at hj), .inl ⟨rfl, rfl, rfl⟩⟩)
    (fun j b hb => by
      match j, hb with
      | 0, hb =>
        cases hb
        exact ⟨rfl, hkv.live, hkv.row _⟩
      | j + 1, hb => simp at hb)
    (fun _ => hkv.sh) (fun A j => rfl)
  have hc := law_below (xs := [.agg #[.int .u8 V0, .string X0, .int .u8 V1, .string X1, .int .u8 V2, .string X2, .int .u8 S, .int .u8 F], .agg #[kv]]) (okT.spec tSlotsWhole (wWhole (X0 := X0) (X1 := X1) (X2 := X2) hV0 hV1 hV2 hS hF hkv.len (argX_row (j := 0) rfl))) hH ⟨⟨_, rfl, rfl, rfl, rfl, rfl, rfl, rfl, rfl, rfl, trivial⟩, ⟨_, rfl, rel_argrow' 0 hkv.sl, trivial⟩, trivial⟩ rfl
  refine hc.mono fun e W' ⟨he, hg⟩ => ?_
  exact ⟨_, he, law_post (tb := 4) hW' rfl rfl (by kernel_rfl) (by kernel_rfl) rfl Try.underlying4 hg⟩
theorem lifted (os : Os) (started : os.Started) (H : Type) (enc : TypeId × Value → H) :
    ReturnsInHanded {} Try.checked os 6 .any (Rows.slotsWholeSpec.pre6 enc Try.prog Try.f6 Rows.slotsWholeRow.domain false) (Rows.slotsWholeSpec.post enc Try.prog Try.f6 false true false false) := by
  refine returnsInHanded_of_change (C := Try.checked) own started (by kernel_rfl) Try.func6
    (ChangeSpec.witness6 (enc := enc) (C := Try.checked) false ⟨#[], #[.agg #[.int .u8 0, .string ByteArray.empty, .int .u8 0, .string ByteArray.empty, .int .u8 0, .string ByteArray.empty, .int .u8 0, .int .u8 0], .agg #[.slice none 0 0]], []⟩ 8 (by kernel_rfl) (by kernel_rfl) (by kernel_rfl) (by kernel_rfl)) ?_
  intro W base args ds gs before hval hW _ _
  exact contract H enc W base args ds gs before hval hW
theorem over : Rows.slotsWholeRow.holds Try.pinned (OpenSpec.ofChange Rows.slotsWholeSpec) :=
  OpenClaim.holds_of_wide 6 Try.f6 rfl rfl rfl rfl rfl rfl rfl ⟨rfl, rfl, rfl, rfl, rfl⟩ rfl rfl rfl rfl rfl (by kernel_rfl) Try.func6 (by kernel_rfl)
    (of_decide_eq_true (by kernel_rfl)) (by unfold Func.isWrapper; first | (rw [if_pos (by decide +kernel)]; kernel_rfl) | (rw [if_neg (by decide +kernel)]; exact ⟨rfl, rfl⟩))
    (fun os started H enc _ => lifted os started H enc)
theorem proved : Rows.SlotsWholeSaid :=
  over
end Go.Proofs.Ytcgglehgpmehcaa.slotsWhole
