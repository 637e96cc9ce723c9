/- FlashCopies: for all calls the law answers true, and its arguments read as they did. -/
import Derived.Test.YtipnhjljhofabaaRows
import Derived.Test.YtipnhjljhofabaaF3D

namespace Go.Proofs.Ytipnhjljhofabaa.flashCopies
open Go.ChangeShapes Go.WideShapes Go.ChangeAt Go.RowKit Go.Sx
set_option linter.unusedVariables false
set_option maxRecDepth 100000
theorem own : ownKnob Try.prog.godebug = none := by kernel_rfl
theorem contract (H : Type) (enc : TypeId × Value → H) (W : World) (base : Nat) (args : Array Value) (ds gs : List (DataW H)) (before : List MemPlace)
    (hval : ∀ (j : Nat) t v, Try.f7.params[j]? = some t → args[j]? = some v → Value.okWide Try.prog W .any base t v)
    (hW : DataW.Whole enc Try.prog Try.f7.params.toList Rows.flashCopiesSpec.vars false W args.toList ds gs before) :
    Calls Try.prog 7 args W fun e W' => ∃ v, e = .returned v ∧ Rows.flashCopiesSpec.post enc Try.prog Try.f7 false true false false W args v W' := by
  have hW' := hW
  obtain ⟨p, q, hA0, hV, rfl, hfz, hnd⟩ := hW
  have hA : DataW.TrodAll enc Try.prog W 0 (fun _ => true) true Try.f7.params.toList args.toList ds p := hA0
  rw [Try.params7] at hA hval
  obtain ⟨v0, vs0, d0, ds0, p0, q0, hargs, rfl, rfl, h0, r0⟩ := trodAll_cons hA
  obtain ⟨v1, vs1, d1, ds1, p1, q1, rfl, rfl, rfl, h1, r1⟩ := trodAll_cons r0
  obtain ⟨v2, vs2, d2, ds2, p2, q2, rfl, rfl, rfl, h2, r2⟩ := trodAll_cons r1
  obtain ⟨rfl, rfl, rfl⟩ := trodAll_nil r2
  obtain rfl : args = #[v0, v1, v2] := by cases args; simp_all
  obtain ⟨rfl, rfl⟩ := trodVars_none hV
  obtain ⟨ops1, m1, lf1, g1⟩ := in_ops (hval 0 42 v0 rfl rfl) h0
  obtain ⟨ops2, m2, lf2, g2⟩ := in_ops (hval 1 42 v1 rfl rfl) h1
  obtain ⟨ops3, m3, lf3, g3⟩ := in_ops (hval 2 42 v2 rfl rfl) h2
  obtain ⟨l1, o1, w1, k1⟩ := ops_loc (A := 0) g1
  obtain ⟨l2, o2, w2, k2⟩ := ops_loc (A := 1) g2
  obtain ⟨l3, o3, w3, k3⟩ := ops_loc (A := 2) g3
  have hH := hrel_args (W := W) (opsA := fun A => if A = 0 then ops1 else if A = 1 then ops2 else ops3) (lfA := fun A => if A = 0 then lf1 else if A = 1 then lf2 else lf3)
    (vA := fun A => if A = 0 then v0 else if A = 1 then v1 else v2) (mA := fun A => if A = 0 then m1 else if A = 1 then m2 else m3)
    (rb := fun j => if j = 0 then some (.sv (orow 0 0 ops1)) else if j = 1 then some (.sv (orow 1 0 ops2)) else if j = 2 then some (.sv (orow 2 0 ops3)) else none)
    (lr := fun j => if j = 0 then l1 else if j = 1 then l2 else l3)
    (fun A hA => by
      match A, hA with
      | 0, _ => exact g1
      | 1, _ => exact g2
      | 2, _ => exact g3)
    (fun j b hb => by
      match j, hb with
      | 0, hb =>
        cases hb
        exact ⟨orow_lt, w1, o1 _ fun j => argR_at (by decide)⟩
      | 1, hb =>
        cases hb
        exact ⟨orow_lt, w2, o2 _ fun j => argR_at (by decide)⟩
      | 2, hb =>
        cases hb
        exact ⟨orow_lt, w3, o3 _ fun j => argR_at (by decide)⟩
      | j + 3, hb => simp at hb)
  have hc := law_below (xs := [v0, v1, v2]) (s7 (lin_of g1 (Nat.min_le_left ..) (by omega) (by decide) (argX_row (j := 0) rfl) (fun j hj => argX_at (A := 0) (by decide) hj)) (lin_of g2 (Nat.min_le_left ..) (by omega) (by decide) (argX_row (j := 1) rfl) (fun j hj => argX_at (A := 1) (by decide) hj)) (lin_of g3 (Nat.min_le_left ..) (by omega) (by decide) (argX_row (j := 2) rfl) (fun j hj => argX_at (A := 2) (by decide) hj))) hH ⟨rel_argrow 0 k1, rel_argrow 1 k2, rel_argrow 2 k3, trivial⟩ rfl
  refine hc.mono fun e W' ⟨he, hg⟩ => ?_
  exact ⟨_, he, law_post (tb := 4) hW' rfl rfl (by kernel_rfl) (by kernel_rfl) rfl Try.underlying4 hg⟩
theorem lifted (os : Os) (started : os.Started) (H : Type) (enc : TypeId × Value → H) :
    ReturnsInHanded {} Try.checked os 7 .any (Rows.flashCopiesSpec.pre6 enc Try.prog Try.f7 Rows.flashCopiesRow.domain false) (Rows.flashCopiesSpec.post enc Try.prog Try.f7 false true false false) := by
  refine returnsInHanded_of_change (C := Try.checked) own started (by kernel_rfl) Try.func7
    (ChangeSpec.witness6 (enc := enc) (C := Try.checked) false ⟨#[], #[.slice none 0 0, .slice none 0 0, .slice none 0 0], []⟩ 8 (by kernel_rfl) (by kernel_rfl) (by kernel_rfl) (by kernel_rfl)) ?_
  intro W base args ds gs before hval hW _ _
  exact contract H enc W base args ds gs before hval hW
theorem over : Rows.flashCopiesRow.holds Try.pinned (OpenSpec.ofChange Rows.flashCopiesSpec) :=
  OpenClaim.holds_of_wide 7 Try.f7 rfl rfl rfl rfl rfl rfl rfl ⟨rfl, rfl, rfl, rfl, rfl⟩ rfl rfl rfl rfl rfl (by kernel_rfl) Try.func7 (by kernel_rfl)
    (of_decide_eq_true (by kernel_rfl)) (by unfold Func.isWrapper; first | (rw [if_pos (by decide +kernel)]; kernel_rfl) | (rw [if_neg (by decide +kernel)]; exact ⟨rfl, rfl⟩))
    (fun os started H enc _ => lifted os started H enc)
theorem proved : Rows.FlashCopiesSaid :=
  over
end Go.Proofs.Ytipnhjljhofabaa.flashCopies
