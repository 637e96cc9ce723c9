/- CellApart: for all calls of two cells the law answers true. -/
import Derived.Test.YtaggkccjgnkloaaGreatRows
import Derived.Test.YtaggkccjgnkloaaGreatCelC

namespace Go.Proofs.YtaggkccjgnkloaaGreat.cellApart
open Go.ChangeShapes Go.WideShapes Go.ChangeAt Go.RowKit Go.Sx
set_option linter.unusedVariables false
set_option maxRecDepth 100000
theorem own : ownKnob Tryz.prog.godebug = none := by kernel_rfl
theorem contract (H : Type) (enc : TypeId × Value → H) (W : World) (base : Nat) (args : Array Value) (ds gs : List (DataW H)) (before : List MemPlace)
    (hval : ∀ (j : Nat) t v, Tryz.f4.params[j]? = some t → args[j]? = some v → Value.okWide Tryz.prog W .any base t v)
    (hW : DataW.Whole enc Tryz.prog Tryz.f4.params.toList Rows.cellApartSpec.vars false W args.toList ds gs before) :
    Calls Tryz.prog 4 args W fun e W' => ∃ v, e = .returned v ∧ Rows.cellApartSpec.post enc Tryz.prog Tryz.f4 false true false false W args v W' := by
  have hW' := hW
  obtain ⟨p, q, hA0, hV, rfl, hfz, hnd⟩ := hW
  have hA : DataW.TrodAll enc Tryz.prog W 0 (fun _ => true) true Tryz.f4.params.toList args.toList ds p := hA0
  rw [Tryz.params4] at hA hval
  obtain ⟨v0, vs0, d0, ds0, p0, q0, hargs, rfl, rfl, h0, r0⟩ := trodAll_cons hA
  obtain ⟨v1, vs1, d1, ds1, p1, q1, rfl, rfl, rfl, h1, r1⟩ := trodAll_cons r0
  obtain ⟨rfl, rfl, rfl⟩ := trodAll_nil r1
  obtain rfl : args = #[v0, v1] := by cases args; simp_all
  obtain ⟨rfl, rfl⟩ := trodVars_none hV
  obtain ⟨ops1, m1, lf1, g1⟩ := in_ops (hval 0 22 v0 rfl rfl) h0
  obtain ⟨ops2, m2, lf2, g2⟩ := in_ops (hval 1 22 v1 rfl rfl) h1
  obtain ⟨l1, o1, w1, k1, s1⟩ := ops_loc (A := 0) g1
  obtain ⟨l2, o2, w2, k2, s2⟩ := ops_loc (A := 1) g2
  have hH := hrel_args (W := W) (opsA := fun A => if A = 0 then ops1 else if A = 1 then ops2 else []) (lfA := fun A => if A = 0 then lf1 else if A = 1 then lf2 else fun _ => ⟨none, 0, 0, false, none⟩)
    (vA := fun A => if A = 0 then v0 else if A = 1 then v1 else .slice none 0 0) (mA := fun A => if A = 0 then m1 else if A = 1 then m2 else 0)
    (rb := fun j => if j = 0 then some (.sv (orow 0 0 ops1)) else if j = 1 then some (.sv (orow 1 0 ops2)) else none)
    (lr := fun j => if j = 0 then l1 else l2)
    (fun A hA => by
      match A, hA with
      | 0, _ => exact g1
      | 1, _ => exact g2
      | 2, _ => exact ⟨Nat.le_refl _, fun j hj => (by simp at hj), fun _ => rfl, [], rfl, fun j hj => (by simp at hj), .inl ⟨rfl, rfl, rfl⟩⟩)
    (fun j b hb => by
      match j, hb with
      | 0, hb =>
        cases hb
        exact ⟨orow_lt, w1, o1 _ fun j => argR_at (by decide)⟩
      | 1, hb =>
        cases hb
        exact ⟨orow_lt, w2, o2 _ fun j => argR_at (by decide)⟩
      | j + 2, hb => simp at hb)
    (fun j => by
      by_cases hj : j = 0
      · simp only [hj, if_true]; exact s1
      · simp only [hj, if_false]; exact s2) (fun A j => by
      by_cases hA : A = 0
      · simp only [hA, if_true]; exact g1.sh j
      · by_cases hB : A = 1
        · simp only [hB, if_true]; exact g2.sh j
        · simp only [hA, hB, if_false])
  have hc := law_below (xs := [v0, v1]) (okT.spec tCellApart (wApart g1.lem g2.lem g1.rng g2.rng (argX_row (j := 0) rfl) (argX_row (j := 1) rfl))) hH ⟨rel_argrow' (lr := fun j => if j = 0 then l1 else l2) 0 k1, rel_argrow' (lr := fun j => if j = 0 then l1 else l2) 1 k2, trivial⟩ rfl
  refine hc.mono fun e W' ⟨he, hg⟩ => ?_
  exact ⟨_, he, law_post (tb := 4) hW' rfl rfl (by kernel_rfl) (by kernel_rfl) rfl Tryz.underlying4 hg⟩
theorem lifted (os : Os) (started : os.Started) (H : Type) (enc : TypeId × Value → H) :
    ReturnsInHanded {} Tryz.checked os 4 .any (Rows.cellApartSpec.pre6 enc Tryz.prog Tryz.f4 Rows.cellApartRow.domain false) (Rows.cellApartSpec.post enc Tryz.prog Tryz.f4 false true false false) := by
  refine returnsInHanded_of_change (C := Tryz.checked) own started (by kernel_rfl) Tryz.func4
    (ChangeSpec.witness6 (enc := enc) (C := Tryz.checked) false ⟨#[], #[.slice none 0 0, .slice none 0 0], []⟩ 8 (by kernel_rfl) (by kernel_rfl) (by kernel_rfl) (by kernel_rfl)) ?_
  intro W base args ds gs before hval hW _ _
  exact contract H enc W base args ds gs before hval hW
theorem over : Rows.cellApartRow.holds Tryz.pinned (OpenSpec.ofChange Rows.cellApartSpec) :=
  OpenClaim.holds_of_wide 4 Tryz.f4 rfl rfl rfl rfl rfl rfl rfl ⟨rfl, rfl, rfl, rfl, rfl⟩ rfl rfl rfl rfl rfl (by kernel_rfl) Tryz.func4 (by kernel_rfl)
    (of_decide_eq_true (by kernel_rfl)) (by unfold Func.isWrapper; first | (rw [if_pos (by decide +kernel)]; kernel_rfl) | (rw [if_neg (by decide +kernel)]; exact ⟨rfl, rfl⟩))
    (fun os started H enc _ => lifted os started H enc)
theorem proved : Rows.CellApartSaid :=
  over
end Go.Proofs.YtaggkccjgnkloaaGreat.cellApart
