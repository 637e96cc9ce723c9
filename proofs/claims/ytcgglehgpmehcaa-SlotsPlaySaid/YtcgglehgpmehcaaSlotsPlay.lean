/- SlotsPlay: for every place, room and all calls the law answers true, and its arguments read as they did. -/
import Derived.Test.YtcgglehgpmehcaaRows
import Derived.Test.YtcgglehgpmehcaaSlotP

namespace Go.Proofs.Ytcgglehgpmehcaa.slotsPlay
open Go.ChangeShapes Go.WideShapes Go.ChangeAt Go.RowKit Go.Sx
set_option linter.unusedVariables false
set_option maxRecDepth 100000
theorem own : ownKnob Try.prog.godebug = none := by kernel_rfl
theorem contract (H : Type) (enc : TypeId × Value → H) (W : World) (base : Nat) (args : Array Value) (ds gs : List (DataW H)) (before : List MemPlace)
    (hval : ∀ (j : Nat) t v, Try.f5.params[j]? = some t → args[j]? = some v → Value.okWide Try.prog W .any base t v)
    (hW : DataW.Whole enc Try.prog Try.f5.params.toList Rows.slotsPlaySpec.vars false W args.toList ds gs before) :
    Calls Try.prog 5 args W fun e W' => ∃ v, e = .returned v ∧ Rows.slotsPlaySpec.post enc Try.prog Try.f5 false true false false W args v W' := by
  have hW' := hW
  obtain ⟨p, q, hA0, hV, rfl, hfz, hnd⟩ := hW
  have hA : DataW.TrodAll enc Try.prog W 0 (fun _ => true) true Try.f5.params.toList args.toList ds p := hA0
  rw [Try.params5] at hA hval
  obtain ⟨v0, vs0, d0, ds0, p0, q0, hargs, rfl, rfl, h0, r0⟩ := trodAll_cons hA
  obtain ⟨v1, vs1, d1, ds1, p1, q1, rfl, rfl, rfl, h1, r1⟩ := trodAll_cons r0
  obtain ⟨v2, vs2, d2, ds2, p2, q2, rfl, rfl, rfl, h2, r2⟩ := trodAll_cons r1
  obtain ⟨rfl, rfl, rfl⟩ := trodAll_nil r2
  obtain rfl : args = #[v0, v1, v2] := by cases args; simp_all
  obtain ⟨rfl, rfl⟩ := trodVars_none hV
  obtain ⟨a0, rfl, rfl, rfl, w0⟩ := open_int Try.underlying5 (hval 0 5 v0 rfl rfl) h0
  obtain ⟨a1, rfl, rfl, rfl, w1⟩ := open_int Try.underlying5 (hval 1 5 v1 rfl rfl) h1
  obtain ⟨B, rfl, hB⟩ := u8_lt w0
  obtain ⟨R, rfl, hR⟩ := u8_lt w1
  obtain ⟨ops1, m1, lf1, g1⟩ := in_ops (hval 2 50 v2 rfl rfl) h2
  obtain ⟨l1, o1, w3, k1, s1⟩ := ops_loc (A := 0) g1
  have hH := hrel_args (W := W) (opsA := fun A => if A = 0 then ops1 else []) (lfA := fun A => if A = 0 then lf1 else fun _ => ⟨none, 0, 0, false, none⟩)
    (vA := fun A => if A = 0 then v2 else .slice none 0 0) (mA := fun A => if A = 0 then m1 else 0)
    (rb := fun j => if j = 0 then some (.sv (orow 0 0 ops1)) else none)
    (lr := fun j => l1)
    (fun A hA => by
      match A, hA with
      | 0, _ => exact g1
      | 1, _ => exact ⟨Nat.le_refl _, fun j hj => (by simp at hj), fun _ => rfl, [], rfl, fun j hj => (by simp at hj), .inl ⟨rfl, rfl, rfl⟩⟩
      | 2, _ => exact ⟨Nat.le_refl _, fun j hj => (by simp at hj), fun _ => rfl, [], rfl, fun j hj => (by simp at hj), .inl ⟨rfl, rfl, rfl⟩⟩)
    (fun j b hb => by
      match j, hb with
      | 0, hb =>
        cases hb
        exact ⟨orow_lt, w3, o1 _ fun j => argR_at (by decide)⟩
      | j + 1, hb => simp at hb)
    (fun _ => s1) (fun A j => by
      by_cases hA : A = 0
      · simp only [hA, if_true]; exact g1.sh j
      · simp only [hA, if_false])
  have hz : ∀ j, j < ops1.length → (ops1.getD j ⟨0, 0, 0, 0, .empty, [], 0⟩).m ≤ (ops1.getD j ⟨0, 0, 0, 0, .empty, [], 0⟩).zs.length := fun j hj => by
    obtain ⟨vs, _, hv, _⟩ := g1.ok
    obtain ⟨kv, _, hk⟩ := hv j hj
    exact hk.len
  have hc := law_below (xs := [.int .u8 B, .int .u8 R, v2]) (okT.spec tSlotsPlay (wPlay hB hR g1.lem g1.rng hz (argX_row (j := 0) rfl) (fun j hj => argX_at (A := 0) (by decide) hj))) hH ⟨rfl, rfl, rel_argrow 0 k1, trivial⟩ rfl
  refine hc.mono fun e W' ⟨he, hg⟩ => ?_
  exact ⟨_, he, law_post (tb := 4) hW' rfl rfl (by kernel_rfl) (by kernel_rfl) rfl Try.underlying4 hg⟩
theorem lifted (os : Os) (started : os.Started) (H : Type) (enc : TypeId × Value → H) :
    ReturnsInHanded {} Try.checked os 5 .any (Rows.slotsPlaySpec.pre6 enc Try.prog Try.f5 Rows.slotsPlayRow.domain false) (Rows.slotsPlaySpec.post enc Try.prog Try.f5 false true false false) := by
  refine returnsInHanded_of_change (C := Try.checked) own started (by kernel_rfl) Try.func5
    (ChangeSpec.witness6 (enc := enc) (C := Try.checked) false ⟨#[], #[.int .u8 0, .int .u8 0, .slice none 0 0], []⟩ 8 (by kernel_rfl) (by kernel_rfl) (by kernel_rfl) (by kernel_rfl)) ?_
  intro W base args ds gs before hval hW _ _
  exact contract H enc W base args ds gs before hval hW
theorem over : Rows.slotsPlayRow.holds Try.pinned (OpenSpec.ofChange Rows.slotsPlaySpec) :=
  OpenClaim.holds_of_wide 5 Try.f5 rfl rfl rfl rfl rfl rfl rfl ⟨rfl, rfl, rfl, rfl, rfl⟩ rfl rfl rfl rfl rfl (by kernel_rfl) Try.func5 (by kernel_rfl)
    (of_decide_eq_true (by kernel_rfl)) (by unfold Func.isWrapper; first | (rw [if_pos (by decide +kernel)]; kernel_rfl) | (rw [if_neg (by decide +kernel)]; exact ⟨rfl, rfl⟩))
    (fun os started H enc _ => lifted os started H enc)
theorem proved : Rows.SlotsPlaySaid :=
  over
end Go.Proofs.Ytcgglehgpmehcaa.slotsPlay
