/- SpanBytes: for all leaves and every text of bulk at most 1048576 the law answers true, and its arguments read as they did. -/
import Derived.Test.YtpdbchccmgdldaaRows
import Derived.Test.YtpdbchccmgdldaaPackB
import Derived.Test.YtpdbchccmgdldaaBulk9

namespace Go.Proofs.Ytpdbchccmgdldaa.spanBytes
open Go.ChangeShapes Go.WideShapes Go.ChangeAt Go.RowKit Go.Sx
set_option linter.unusedVariables false
set_option maxRecDepth 100000
theorem bulk_szB {H : Type} : ∀ l : List ByteArray, Rows.uptoBulkAll (strs (H := H) l) ≤ 1048576 → szB l ∧ l.length ≤ 1048576
  | [], _ => ⟨fun s hs => (by cases hs), by simp⟩
  | s :: l, h => by
    have e : Rows.uptoBulkAll (strs (H := H) (s :: l)) = s.size + 1 + Rows.uptoBulkAll (strs (H := H) l) := by
      simp only [strs, List.map_cons, Rows.uptoBulkAll, Rows.uptoBulk, Array.length_toList]; rfl
    have ih := bulk_szB (H := H) l (by omega)
    have il := bulks.length_le (strs (H := H) l)
    simp only [strs, List.length_map] at il
    refine ⟨fun t ht => ?_, by simp only [strs] at e h ⊢; simp only [List.length_cons]; omega⟩
    rcases List.mem_cons.1 ht with rfl | ht
    · omega
    · exact ih.1 t ht
theorem strs_szB {H : Type} {d : DataW H} {ss : List ByteArray} {m : Nat} (hm : m ≤ ss.length) (hd : (d = .nil ∧ ss = []) ∨ d = .slice (strs (ss.take m)) (strs (ss.drop m))) (hB : Rows.uptoBulk d ≤ 1048576) : szB ss ∧ m ≤ 1048576 := by
  rcases hd with ⟨_, rfl⟩ | rfl
  · have : m = 0 := by simpa using hm
    subst this
    exact ⟨fun s hs => (by cases hs), by omega⟩
  · simp only [Rows.uptoBulk] at hB
    have b1 := bulk_szB (H := H) (ss.take m) (by omega)
    have b2 := bulk_szB (H := H) (ss.drop m) (by omega)
    refine ⟨fun s hs => ?_, by have := b1.2; rw [List.length_take] at this; omega⟩
    rw [← List.take_append_drop m ss, List.mem_append] at hs
    exact hs.elim (b1.1 s) (b2.1 s)
theorem own : ownKnob Try.prog.godebug = none := by kernel_rfl
theorem contract (H : Type) (enc : TypeId × Value → H) (W : World) (base : Nat) (args : Array Value) (ds gs : List (DataW H)) (before : List MemPlace)
    (hval : ∀ (j : Nat) t v, Try.f7.params[j]? = some t → args[j]? = some v → Value.okWide Try.prog W .any base t v)
    (hW : DataW.Whole enc Try.prog Try.f7.params.toList Rows.spanBytesSpec.vars false W args.toList ds gs before) (hk : Rows.uptoSmall H (ds ++ gs) = true) :
    Calls Try.prog 7 args W fun e W' => ∃ v, e = .returned v ∧ Rows.spanBytesSpec.post enc Try.prog Try.f7 false true false false W args v W' := by
  have hW' := hW
  obtain ⟨p, q, hA0, hV, rfl, hfz, hnd⟩ := hW
  have hA : DataW.TrodAll enc Try.prog W 0 (fun _ => true) true Try.f7.params.toList args.toList ds p := hA0
  rw [Try.params7] at hA hval
  obtain ⟨v0, vs0, d0, ds0, p0, q0, hargs, rfl, rfl, h0, r0⟩ := trodAll_cons hA
  obtain ⟨v1, vs1, d1, ds1, p1, q1, rfl, rfl, rfl, h1, r1⟩ := trodAll_cons r0
  obtain ⟨rfl, rfl, rfl⟩ := trodAll_nil r1
  obtain rfl : args = #[v0, v1] := by cases args; simp_all
  obtain ⟨rfl, rfl⟩ := trodVars_none hV
  obtain ⟨l1, ss, m, hH1, hro1, hsl1, hm1, hd1⟩ := in_strs Try.underlying22 Try.underlying9 (by kernel_rfl) (hval 0 22 v0 rfl rfl) h0 (hrel_init W) (by decide) (fun i s h => (by cases h))
  obtain ⟨a1, rfl, rfl, rfl, w1⟩ := Go.ChangeMaps.open_string Try.underlying9 (hval 1 9 v1 rfl rfl) h1
  have hB := bulks.bound hk
  simp only [List.append_nil, Rows.uptoBulkAll] at hB
  have z1 := strs_szB hm1 hd1 (by omega)
  have e1 : Rows.uptoBulk (DataW.lit (H := H) (.string a1.data.toList)) = a1.size + 1 := by simp only [Rows.uptoBulk, Array.length_toList]; rfl
  have hc := law_below (xs := [v0, .string a1]) (okT.spec tSpanBytes (spanBytesW (x := fun _ => none) (m := m) (ss := ss) (text := a1) hm1 z1.2 z1.1 (by omega))) hH1 ⟨hsl1, rfl, trivial⟩ (by simp [ltT, ltC, ltB, ltA, idOK])
  refine hc.mono fun e W' ⟨he, hg⟩ => ?_
  exact ⟨_, he, law_post (tb := 4) hW' rfl rfl (by kernel_rfl) (by kernel_rfl) rfl Try.underlying4 hg⟩
theorem lifted (os : Os) (started : os.Started) (H : Type) (enc : TypeId × Value → H) (F : Stop.Interp) :
    ReturnsInHanded {} Try.checked os 7 .any ((Rows.OpenSpec.upto Rows.spanBytesSpec).pre6 enc Try.prog Try.f7 Rows.spanBytesUptoRow.domain false) (((Rows.OpenSpec.upto Rows.spanBytesSpec).at F).post enc Try.prog Try.f7 false true false false) := by
  refine returnsInHanded_of_cond (C := Try.checked) (s := Rows.OpenSpec.upto Rows.spanBytesSpec) (k := Rows.uptoSmall) rfl own started (by kernel_rfl) Try.func7
    (OpenSpec.witness (enc := enc) (C := Try.checked) (s := Rows.OpenSpec.upto Rows.spanBytesSpec) (k := Rows.uptoSmall) rfl false ⟨#[], #[.slice none 0 0, .string ByteArray.empty], []⟩ 8 (by kernel_rfl) (by kernel_rfl) (by kernel_rfl)
      (x := ([.nil, .lit (.string [])], [], [])) (by kernel_rfl) rfl (by kernel_rfl)) ?_
  intro W base args ds gs before hval hW _ hk _
  exact contract H enc W base args ds gs before hval hW hk
theorem over : Rows.spanBytesUptoRow.holds Try.pinned (Rows.OpenSpec.upto Rows.spanBytesSpec) :=
  OpenClaim.holds_of_cond 7 Try.f7 rfl rfl rfl rfl rfl rfl rfl ⟨rfl, rfl, rfl, rfl, rfl⟩ rfl rfl rfl rfl rfl (by kernel_rfl) Try.func7 (by kernel_rfl)
    (of_decide_eq_true (by kernel_rfl)) (by unfold Func.isWrapper; first | (rw [if_pos (by decide +kernel)]; kernel_rfl) | (rw [if_neg (by decide +kernel)]; exact ⟨rfl, rfl⟩))
    (fun os started H enc _ F => lifted os started H enc F)
theorem proved : Rows.SpanBytesUptoSaid :=
  over
end Go.Proofs.Ytpdbchccmgdldaa.spanBytes
