/- ShaSums: for every kind and all parts of bulk at most 1048576 the law answers true, and its arguments read as they did. -/
import Derived.Test.YtlnimdiddoalmaaL1t
import Derived.Test.YtlnimdiddoalmaaBulk

namespace Go.Proofs.Ytlnimdiddoalmaa.shaSums
open Go.ChangeShapes Go.WideShapes Go.ChangeAt Go.RowKit Go.Sx
set_option linter.unusedVariables false

theorem own : ownKnob Try.prog.godebug = none := by kernel_rfl
theorem bulk_strs {H : Type} : ∀ l : List ByteArray, Rows.uptoBulkAll (strs (H := H) l) = (catb l).length + l.length
  | [] => rfl
  | s :: l => by
    have := bulk_strs (H := H) l
    simp only [strs, List.map_cons, Rows.uptoBulkAll, Rows.uptoBulk, catb, List.flatMap_cons, List.length_append, List.length_cons] at this ⊢
    rw [this]
    simp [bts]
    omega
theorem contract (H : Type) (enc : TypeId × Value → H) (W : World) (base : Nat) (args : Array Value) (ds gs : List (DataW H)) (before : List MemPlace)
    (hval : ∀ (j : Nat) t v, Try.f4.params[j]? = some t → args[j]? = some v → Value.okWide Try.prog W .any base t v)
    (hW : DataW.Whole enc Try.prog Try.f4.params.toList Rows.shaSumsSpec.vars false W args.toList ds gs before) (hk : Rows.uptoSmall H (ds ++ gs) = true) :
    Calls Try.prog 4 args W fun e W' => ∃ v, e = .returned v ∧ Rows.shaSumsSpec.post enc Try.prog Try.f4 false true false false W args v W' := by
  have hW' := hW
  obtain ⟨p, q, hA0, hV, rfl, hfz, hnd⟩ := hW
  have hA : DataW.TrodAll enc Try.prog W 0 (fun _ => true) true Try.f4.params.toList args.toList ds p := hA0
  rw [Try.params4] at hA hval
  obtain ⟨v0, vs0, d0, ds0, p0, q0, hargs, rfl, rfl, h0, r0⟩ := trodAll_cons hA
  obtain ⟨v1, vs1, d1, ds1, p1, q1, rfl, rfl, rfl, h1, r1⟩ := trodAll_cons r0
  obtain ⟨rfl, rfl, rfl⟩ := trodAll_nil r1
  obtain rfl : args = #[v0, v1] := by cases args; simp_all
  obtain ⟨rfl, rfl⟩ := trodVars_none hV
  obtain ⟨a0, rfl, rfl, rfl, w0⟩ := open_int Try.underlying5 (hval 0 5 v0 rfl rfl) h0
  obtain ⟨l, ss, m, hH, _, hsl, hm, hd⟩ := in_strs Try.underlying27 Try.underlying9 (by kernel_rfl) (hval 1 27 v1 rfl rfl) h1 (hrel_init W) (by decide) (fun i s h => (by cases h))
  have hB := bulks.bound hk
  have hlen : (catb ((ss.drop 0).take m)).length + m ≤ 1048576 := by
    rcases hd with ⟨_, rfl⟩ | rfl
    · have : m = 0 := by simpa using hm
      subst this; simp [catb]
    · simp only [List.append_nil, Rows.uptoBulkAll, Rows.uptoBulk, bulk_strs, List.length_take] at hB
      rw [List.drop_zero]
      omega
  have htag : ∀ (l : List ByteArray), (tagb a0 l).length ≤ (catb l).length + 4 * l.length + 1 := by
    intro l
    unfold tagb catb
    induction l with
    | nil => simp
    | cons s l ih =>
      simp only [List.flatMap_cons, List.length_cons, List.length_append, tagc, be4, List.length_nil] at ih ⊢
      omega
  have hlt : ((ss.drop 0).take m).length ≤ m := List.length_take_le ..
  have hc := law_below (xs := [.int .u8 a0, v1]) (s4 (k := a0) (ss := ss) (i := 1) (o := 0) (m := m) (H := ⟨[(1, some ⟨false, .strs ss⟩)], fun _ => none⟩) (n := 2) rfl (by omega) (by omega) (by omega) (by have := htag ((ss.drop 0).take m); omega)) hH
    ⟨rfl, hsl, trivial⟩ (by simp [ltT, ltC, ltB, ltA, idOK])
  refine hc.mono fun e W' ⟨he, hg⟩ => ?_
  exact ⟨_, he, law_post (tb := 4) hW' rfl rfl (by kernel_rfl) (by kernel_rfl) rfl Try.underlying4 hg⟩

set_option maxRecDepth 100000 in
theorem lifted (os : Os) (started : os.Started) (H : Type) (enc : TypeId × Value → H) (F : Stop.Interp) :
    ReturnsInHanded {} Try.checked os 4 .any ((Rows.OpenSpec.upto Rows.shaSumsSpec).pre6 enc Try.prog Try.f4 Rows.shaSumsUptoRow.domain false) (((Rows.OpenSpec.upto Rows.shaSumsSpec).at F).post enc Try.prog Try.f4 false true false false) := by
  refine returnsInHanded_of_cond (C := Try.checked) (s := Rows.OpenSpec.upto Rows.shaSumsSpec) (k := Rows.uptoSmall) rfl own started (by kernel_rfl) Try.func4
    (OpenSpec.witness (enc := enc) (C := Try.checked) (s := Rows.OpenSpec.upto Rows.shaSumsSpec) (k := Rows.uptoSmall) rfl false ⟨#[], #[.int .u8 0, .slice none 0 0], []⟩ 8 (by kernel_rfl) (by kernel_rfl) (by kernel_rfl)
      (x := ([.lit (.int .u8 0), .nil], [], [])) (by kernel_rfl) rfl (by kernel_rfl)) ?_
  intro W base args ds gs before hval hW _ hk _
  exact contract H enc W base args ds gs before hval hW hk

theorem over : Rows.shaSumsUptoRow.holds Try.pinned (Rows.OpenSpec.upto Rows.shaSumsSpec) :=
  OpenClaim.holds_of_cond 4 Try.f4 rfl rfl rfl rfl rfl rfl rfl ⟨rfl, rfl, rfl, rfl, rfl⟩ rfl rfl rfl rfl rfl (by kernel_rfl) Try.func4 (by kernel_rfl)
    (of_decide_eq_true (by kernel_rfl)) (by unfold Func.isWrapper; first | (rw [if_pos (by decide +kernel)]; kernel_rfl) | (rw [if_neg (by decide +kernel)]; exact ⟨rfl, rfl⟩))
    (fun os started H enc _ F => lifted os started H enc F)

theorem proved : Rows.ShaSumsUptoSaid :=
  over
end Go.Proofs.Ytlnimdiddoalmaa.shaSums
