/- DeltaPieces: for every two texts and all cuts of bulk at most 1048576 the law answers true, and its arguments read as they did. -/
import Derived.Test.YtmcilmfnnpfdjaaRows
import Derived.Test.YtmcilmfnnpfdjaaDelG
import Derived.Test.YtmcilmfnnpfdjaaBulk18

namespace Go.Proofs.Ytmcilmfnnpfdjaa.deltaPieces
open Go.ChangeShapes Go.WideShapes Go.ChangeAt Go.RowKit Go.Sx
set_option linter.unusedVariables false
set_option maxRecDepth 100000
theorem own : ownKnob Try.prog.godebug = none := by kernel_rfl
theorem contract (H : Type) (enc : TypeId × Value → H) (W : World) (base : Nat) (args : Array Value) (ds gs : List (DataW H)) (before : List MemPlace)
    (hval : ∀ (j : Nat) t v, Try.f5.params[j]? = some t → args[j]? = some v → Value.okWide Try.prog W .any base t v)
    (hW : DataW.Whole enc Try.prog Try.f5.params.toList Rows.deltaPiecesSpec.vars false W args.toList ds gs before) (hk : Rows.uptoSmall H (ds ++ gs) = true) :
    Calls Try.prog 5 args W fun e W' => ∃ v, e = .returned v ∧ Rows.deltaPiecesSpec.post enc Try.prog Try.f5 false true false false W args v W' := by
  have hW' := hW
  obtain ⟨p, q, hA0, hV, rfl, hfz, hnd⟩ := hW
  have hA : DataW.TrodAll enc Try.prog W 0 (fun _ => true) true Try.f5.params.toList args.toList ds p := hA0
  rw [Try.params5] at hA hval
  obtain ⟨v0, vs0, d0, ds0, p0, q0, hargs, rfl, rfl, h0, r0⟩ := trodAll_cons hA
  obtain ⟨v1, vs1, d1, ds1, p1, q1, rfl, rfl, rfl, h1, r1⟩ := trodAll_cons r0
  obtain ⟨v2, vs2, d2, ds2, p2, q2, rfl, rfl, rfl, h2, r2⟩ := trodAll_cons r1
  obtain ⟨rfl, rfl, rfl⟩ := trodAll_nil r2
  obtain rfl : args = #[v0, v1, v2] := by cases args; simp_all
  obtain ⟨rfl, rfl⟩ := trodVars_none hV
  obtain ⟨a0, rfl, rfl, rfl, w0⟩ := Go.ChangeMaps.open_string Try.underlying9 (hval 0 9 v0 rfl rfl) h0
  obtain ⟨a1, rfl, rfl, rfl, w1⟩ := Go.ChangeMaps.open_string Try.underlying9 (hval 1 9 v1 rfl rfl) h1
  obtain ⟨l, zs, m, hH, _, hsl, hm, hws, hd⟩ := in_ints2 Try.underlying28 Try.underlying31 (by kernel_rfl) (hval 2 28 v2 rfl rfl) h2 (hrel_init W) (by decide) (fun i s h => (by cases h))
  have hB := bulks.bound hk
  have hlen : a1.size + m ≤ 1048576 := by
    have z0 : a1.size = a1.data.size := rfl
    rcases hd with ⟨_, rfl⟩ | rfl
    · have : m = 0 := by simpa using hm
      subst this
      simp only [List.append_nil, Rows.uptoBulkAll, Rows.uptoBulk, Array.length_toList] at hB
      omega
    · have hs := bulks.slice_le (lits (H := H) .u16 (zs.take m)) (lits .u16 (zs.drop m))
      simp only [List.append_nil, Rows.uptoBulkAll] at hB
      simp only [lits, List.length_map, List.length_take] at hs
      have e1 : a1.size ≤ Rows.uptoBulk (DataW.lit (H := H) (.string a1.data.toList)) := by
        simp only [Rows.uptoBulk, Array.length_toList]; omega
      have e2 : min m zs.length = m := by omega
      simp only [lits] at hB
      omega
  have hc := law_below (xs := [.string a0, .string a1, v2]) (okT.spec tDeltaPieces (piecesW (x := fun _ => none) (old := a0) (patch := a1) (cs := zs) (m := m) (by omega) hm (by omega) (fun c hc => by
    have := hws c hc
    simpa [Lit.wf, IntKind.min, IntKind.max, IntKind.signed, IntKind.bits] using this))) hH ⟨rfl, rfl, hsl, trivial⟩ (by simp [ltT, ltC, ltB, ltA, idOK])
  refine hc.mono fun e W' ⟨he, hg⟩ => ?_
  exact ⟨_, he, law_post (tb := 4) hW' rfl rfl (by kernel_rfl) (by kernel_rfl) rfl Try.underlying4 hg⟩
theorem lifted (os : Os) (started : os.Started) (H : Type) (enc : TypeId × Value → H) (F : Stop.Interp) :
    ReturnsInHanded {} Try.checked os 5 .any ((Rows.OpenSpec.upto Rows.deltaPiecesSpec).pre6 enc Try.prog Try.f5 Rows.deltaPiecesUptoRow.domain false) (((Rows.OpenSpec.upto Rows.deltaPiecesSpec).at F).post enc Try.prog Try.f5 false true false false) := by
  refine returnsInHanded_of_cond (C := Try.checked) (s := Rows.OpenSpec.upto Rows.deltaPiecesSpec) (k := Rows.uptoSmall) rfl own started (by kernel_rfl) Try.func5
    (OpenSpec.witness (enc := enc) (C := Try.checked) (s := Rows.OpenSpec.upto Rows.deltaPiecesSpec) (k := Rows.uptoSmall) rfl false ⟨#[], #[.string ByteArray.empty, .string ByteArray.empty, .slice none 0 0], []⟩ 8 (by kernel_rfl) (by kernel_rfl) (by kernel_rfl)
      (x := ([.lit (.string []), .lit (.string []), .nil], [], [])) (by kernel_rfl) rfl (by kernel_rfl)) ?_
  intro W base args ds gs before hval hW _ hk _
  exact contract H enc W base args ds gs before hval hW hk
theorem over : Rows.deltaPiecesUptoRow.holds Try.pinned (Rows.OpenSpec.upto Rows.deltaPiecesSpec) :=
  OpenClaim.holds_of_cond 5 Try.f5 rfl rfl rfl rfl rfl rfl rfl ⟨rfl, rfl, rfl, rfl, rfl⟩ rfl rfl rfl rfl rfl (by kernel_rfl) Try.func5 (by kernel_rfl)
    (of_decide_eq_true (by kernel_rfl)) (by unfold Func.isWrapper; first | (rw [if_pos (by decide +kernel)]; kernel_rfl) | (rw [if_neg (by decide +kernel)]; exact ⟨rfl, rfl⟩))
    (fun os started H enc _ F => lifted os started H enc F)
theorem proved : Rows.DeltaPiecesUptoSaid :=
  over
end Go.Proofs.Ytmcilmfnnpfdjaa.deltaPieces
