/- TreeAsked: for every proof of bulk at most 1048576 the law answers true, and its argument reads as it did. -/
import Derived.Test.YthphefmkpcocdaaRows
import Derived.Test.YthphefmkpcocdaaTreeC
import Derived.Test.YthphefmkpcocdaaBulk8

namespace Go.Proofs.Ythphefmkpcocdaa.treeAsked
open Go.ChangeShapes Go.WideShapes Go.ChangeAt Go.RowKit Go.Sx
set_option linter.unusedVariables false
set_option maxRecDepth 100000
theorem bulk_szB {H : Type} : ∀ l : List ByteArray, Rows.uptoBulkAll (strs (H := H) l) ≤ 1048576 → szB l ∧ l.length ≤ 1048576
  | [], _ => ⟨fun s hs => (by cases hs), by simp⟩
  | s :: l, h => by
    have e : Rows.uptoBulkAll (strs (H := H) (s :: l)) = s.size + 1 + Rows.uptoBulkAll (strs (H := H) l) := by
      simp only [strs, List.map_cons, Rows.uptoBulkAll, Rows.uptoBulk, Array.length_toList]; rfl
    have ih := bulk_szB (H := H) l (by omega)
    have il := bulks.length_le (strs (H := H) l)
    simp only [strs, List.length_map] at il
    refine ⟨fun t ht => ?_, by simp only [strs] at e h ⊢; simp only [List.length_cons]; omega⟩
    rcases List.mem_cons.1 ht with rfl | ht
    · omega
    · exact ih.1 t ht
theorem own : ownKnob Try.prog.godebug = none := by kernel_rfl
theorem contract (H : Type) (enc : TypeId × Value → H) (W : World) (base : Nat) (args : Array Value) (ds gs : List (DataW H)) (before : List MemPlace)
    (hval : ∀ (j : Nat) t v, Try.f6.params[j]? = some t → args[j]? = some v → Value.okWide Try.prog W .any base t v)
    (hW : DataW.Whole enc Try.prog Try.f6.params.toList Rows.treeAskedSpec.vars false W args.toList ds gs before) (hk : Rows.uptoSmall H (ds ++ gs) = true) :
    Calls Try.prog 6 args W fun e W' => ∃ v, e = .returned v ∧ Rows.treeAskedSpec.post enc Try.prog Try.f6 false true false false W args v W' := by
  have hW' := hW
  obtain ⟨p, q, hA0, hV, rfl, hfz, hnd⟩ := hW
  have hA : DataW.TrodAll enc Try.prog W 0 (fun _ => true) true Try.f6.params.toList args.toList ds p := hA0
  rw [Try.params6] at hA hval
  obtain ⟨v0, vs0, d0, ds0, p0, q0, hargs, rfl, rfl, h0, r0⟩ := trodAll_cons hA
  obtain ⟨rfl, rfl, rfl⟩ := trodAll_nil r0
  obtain rfl : args = #[v0] := by cases args; simp_all
  obtain ⟨rfl, rfl⟩ := trodVars_none hV
  obtain ⟨M, N, kv, old, rt, y, qs, rfl, hM, hN, hkv, hy, rfl⟩ := asked_cells (hval 0 37 v0 rfl rfl) h0
  obtain ⟨l, ss, m, hH, _, hsl, hm, hd⟩ := in_strs Try.underlying22 Try.underlying9 (by kernel_rfl) hkv hy (hrel_init W) (by decide) (fun i s h => (by cases h))
  have hB := bulks.bound hk
  simp [Lit.wf, IntKind.min, IntKind.max, IntKind.signed, IntKind.bits] at hM hN
  have z0 : old.size = old.data.size := rfl
  have hz : old.size ≤ 1048576 ∧ szB ss ∧ m ≤ 1048576 := by
    rcases hd with ⟨_, rfl⟩ | rfl
    · have : m = 0 := by simpa using hm
      subst this
      simp only [List.append_nil, Rows.uptoBulkAll, Rows.uptoBulk, Array.length_toList] at hB
      exact ⟨by omega, fun s hs => (by cases hs), by omega⟩
    · simp only [List.append_nil, Rows.uptoBulkAll, Rows.uptoBulk, Array.length_toList] at hB
      have b1 := bulk_szB (H := H) (ss.take m) (by omega)
      have b2 := bulk_szB (H := H) (ss.drop m) (by omega)
      refine ⟨by omega, fun s hs => ?_, by have := b1.2; rw [List.length_take] at this; omega⟩
      rw [← List.take_append_drop m ss, List.mem_append] at hs
      exact hs.elim (b1.1 s) (b2.1 s)
  have hc := law_below (xs := [.agg #[.int .i64 M, .int .i64 N, kv, .string old, .string rt]]) (okT.spec tTreeAsked (treeAskedW (x := fun _ => none) (M := M) (N := N) (m := m) (ss := ss) (old := old) (rt := rt) (by omega) (by omega) hm hz.2.1 hz.2.2 (by omega))) hH ⟨⟨_, rfl, rfl, rfl, hsl, rfl, rfl, trivial⟩, trivial⟩ (by simp [ltT, ltC, ltB, ltA, idOK])
  refine hc.mono fun e W' ⟨he, hg⟩ => ?_
  exact ⟨_, he, law_post (tb := 4) hW' rfl rfl (by kernel_rfl) (by kernel_rfl) rfl Try.underlying4 hg⟩
theorem lifted (os : Os) (started : os.Started) (H : Type) (enc : TypeId × Value → H) (F : Stop.Interp) :
    ReturnsInHanded {} Try.checked os 6 .any ((Rows.OpenSpec.upto Rows.treeAskedSpec).pre6 enc Try.prog Try.f6 Rows.treeAskedUptoRow.domain false) (((Rows.OpenSpec.upto Rows.treeAskedSpec).at F).post enc Try.prog Try.f6 false true false false) := by
  refine returnsInHanded_of_cond (C := Try.checked) (s := Rows.OpenSpec.upto Rows.treeAskedSpec) (k := Rows.uptoSmall) rfl own started (by kernel_rfl) Try.func6
    (OpenSpec.witness (enc := enc) (C := Try.checked) (s := Rows.OpenSpec.upto Rows.treeAskedSpec) (k := Rows.uptoSmall) rfl false ⟨#[], #[.agg #[.int .i64 0, .int .i64 0, .slice none 0 0, .string ByteArray.empty, .string ByteArray.empty]], []⟩ 8 (by kernel_rfl) (by kernel_rfl) (by kernel_rfl)
      (x := ([.agg [.lit (.int .i64 0), .lit (.int .i64 0), .nil, .lit (.string []), .lit (.string [])]], [], [])) (by kernel_rfl) rfl (by kernel_rfl)) ?_
  intro W base args ds gs before hval hW _ hk _
  exact contract H enc W base args ds gs before hval hW hk
theorem over : Rows.treeAskedUptoRow.holds Try.pinned (Rows.OpenSpec.upto Rows.treeAskedSpec) :=
  OpenClaim.holds_of_cond 6 Try.f6 rfl rfl rfl rfl rfl rfl rfl ⟨rfl, rfl, rfl, rfl, rfl⟩ rfl rfl rfl rfl rfl (by kernel_rfl) Try.func6 (by kernel_rfl)
    (of_decide_eq_true (by kernel_rfl)) (by unfold Func.isWrapper; first | (rw [if_pos (by decide +kernel)]; kernel_rfl) | (rw [if_neg (by decide +kernel)]; exact ⟨rfl, rfl⟩))
    (fun os started H enc _ F => lifted os started H enc F)
theorem proved : Rows.TreeAskedUptoSaid :=
  over
end Go.Proofs.Ythphefmkpcocdaa.treeAsked
