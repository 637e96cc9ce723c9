/- QuorumGrows: for every set of keys and all signatures of bulk at most 1048576 the law answers true, and its arguments read as they did. -/
import Derived.Test.YtbdgjfcchmainaaRows
import Derived.Test.YtbdgjfcchmainaaQuE
import Derived.Test.YtbdgjfcchmainaaQuF
import Derived.Test.YtbdgjfcchmainaaBulk7

namespace Go.Proofs.Ytbdgjfcchmainaa.quorumGrows
open Go.ChangeShapes Go.WideShapes Go.ChangeAt Go.RowKit Go.Sx
set_option linter.unusedVariables false
set_option maxRecDepth 100000
theorem bulk_bt {H : Type} : ∀ l : List Bt, Rows.uptoBulkAll (l.map (bD (H := H))) ≤ 1048576 → ∀ b ∈ l, b.text.size ≤ 1048576
  | [], _ => fun b hb => absurd hb List.not_mem_nil
  | c :: l, h => by
    have e : Rows.uptoBulkAll ((c :: l).map (bD (H := H))) = (c.text.size + 6) + Rows.uptoBulkAll (l.map (bD (H := H))) := by
      simp only [List.map_cons, Rows.uptoBulkAll, bD, Rows.uptoBulk, Array.length_toList]
      show _ = (c.text.data.size + 6) + _
      omega
    have ih := bulk_bt (H := H) l (by omega)
    intro b hb
    rcases List.mem_cons.1 hb with rfl | hb
    · omega
    · exact ih b hb
theorem bts_ok {H : Type} {B : List Bt} {m : Nat} {d : DataW H} (hr : ∀ b ∈ B, b.rng) (hd : (d = .nil ∧ B = []) ∨ d = .slice ((B.take m).map bD) ((B.drop m).map bD)) (hB : Rows.uptoBulk d ≤ 1048576) : ∀ b ∈ B, b.ok := by
  rcases hd with ⟨_, rfl⟩ | rfl
  · exact fun b hb => absurd hb List.not_mem_nil
  · simp only [Rows.uptoBulk] at hB
    have b1 := bulk_bt (H := H) (B.take m) (by omega)
    have b2 := bulk_bt (H := H) (B.drop m) (by omega)
    intro b hb
    have hs : b.text.size ≤ 1048576 := by
      have hb' := hb
      rw [← List.take_append_drop m B, List.mem_append] at hb'
      exact hb'.elim (b1 b) (b2 b)
    obtain ⟨r1, r2, r3, r4⟩ := hr b hb
    exact ⟨r1, r2, by omega, r3, r4⟩
theorem own : ownKnob Try.prog.godebug = none := by kernel_rfl
theorem contract (H : Type) (enc : TypeId × Value → H) (W : World) (base : Nat) (args : Array Value) (ds gs : List (DataW H)) (before : List MemPlace)
    (hval : ∀ (j : Nat) t v, Try.f5.params[j]? = some t → args[j]? = some v → Value.okWide Try.prog W .any base t v)
    (hW : DataW.Whole enc Try.prog Try.f5.params.toList Rows.quorumGrowsSpec.vars false W args.toList ds gs before) (hk : Rows.uptoSmall H (ds ++ gs) = true) :
    Calls Try.prog 5 args W fun e W' => ∃ v, e = .returned v ∧ Rows.quorumGrowsSpec.post enc Try.prog Try.f5 false true false false W args v W' := by
  have hW' := hW
  obtain ⟨p, q, hA0, hV, rfl, hfz, hnd⟩ := hW
  have hA : DataW.TrodAll enc Try.prog W 0 (fun _ => true) true Try.f5.params.toList args.toList ds p := hA0
  rw [Try.params5] at hA hval
  obtain ⟨v0, vs0, d0, ds0, p0, q0, hargs, rfl, rfl, h0, r0⟩ := trodAll_cons hA
  obtain ⟨v1, vs1, d1, ds1, p1, q1, rfl, rfl, rfl, h1, r1⟩ := trodAll_cons r0
  obtain ⟨v2, vs2, d2, ds2, p2, q2, rfl, rfl, rfl, h2, r2⟩ := trodAll_cons r1
  obtain ⟨rfl, rfl, rfl⟩ := trodAll_nil r2
  obtain rfl : args = #[v0, v1, v2] := by cases args; simp_all
  obtain ⟨rfl, rfl⟩ := trodVars_none hV
  obtain ⟨i0, rfl, rfl, rfl, w0⟩ := open_int Try.underlying5 (hval 0 5 v0 rfl rfl) h0
  simp [Lit.wf, IntKind.min, IntKind.max, IntKind.signed, IntKind.bits] at w0
  obtain ⟨k, rfl⟩ : ∃ k : Nat, i0 = k := ⟨i0.toNat, by omega⟩
  obtain ⟨l1, A, m, hH1, hro1, hsl1, hm1, hr1, hd1⟩ := in_bts (hval 1 32 v1 rfl rfl) h1 (hrel_init W) (by decide) (fun i s h => (by cases h))
  obtain ⟨l2, B, q, hH2, _, hsl2, hm2, hr2, hd2⟩ := in_bts (hval 2 32 v2 rfl rfl) h2 hH1 (by decide) hro1
  have hB := bulks.bound hk
  simp only [List.append_nil, Rows.uptoBulkAll] at hB
  have ok1 := bts_ok hr1 hd1 (by omega)
  have ok2 := bts_ok hr2 hd2 (by omega)
  have hc := law_below (xs := [.int .u8 k, v1, v2]) (okT.spec tQGrows (growsW (x := fun _ => none) (A := A) (B := B) (m := m) (k := q) (bits := k) (by omega) hm1 hm2 ok1 ok2)) hH2 ⟨rfl, hsl1, hsl2, trivial⟩ (by simp [ltT, ltC, ltB, ltA, idOK])
  refine hc.mono fun e W' ⟨he, hg⟩ => ?_
  exact ⟨_, he, law_post (tb := 4) hW' rfl rfl (by kernel_rfl) (by kernel_rfl) rfl Try.underlying4 hg⟩
theorem lifted (os : Os) (started : os.Started) (H : Type) (enc : TypeId × Value → H) (F : Stop.Interp) :
    ReturnsInHanded {} Try.checked os 5 .any ((Rows.OpenSpec.upto Rows.quorumGrowsSpec).pre6 enc Try.prog Try.f5 Rows.quorumGrowsUptoRow.domain false) (((Rows.OpenSpec.upto Rows.quorumGrowsSpec).at F).post enc Try.prog Try.f5 false true false false) := by
  refine returnsInHanded_of_cond (C := Try.checked) (s := Rows.OpenSpec.upto Rows.quorumGrowsSpec) (k := Rows.uptoSmall) rfl own started (by kernel_rfl) Try.func5
    (OpenSpec.witness (enc := enc) (C := Try.checked) (s := Rows.OpenSpec.upto Rows.quorumGrowsSpec) (k := Rows.uptoSmall) rfl false ⟨#[], #[.int .u8 0, .slice none 0 0, .slice none 0 0], []⟩ 8 (by kernel_rfl) (by kernel_rfl) (by kernel_rfl)
      (x := ([.lit (.int .u8 0), .nil, .nil], [], [])) (by kernel_rfl) rfl (by kernel_rfl)) ?_
  intro W base args ds gs before hval hW _ hk _
  exact contract H enc W base args ds gs before hval hW hk
theorem over : Rows.quorumGrowsUptoRow.holds Try.pinned (Rows.OpenSpec.upto Rows.quorumGrowsSpec) :=
  OpenClaim.holds_of_cond 5 Try.f5 rfl rfl rfl rfl rfl rfl rfl ⟨rfl, rfl, rfl, rfl, rfl⟩ rfl rfl rfl rfl rfl (by kernel_rfl) Try.func5 (by kernel_rfl)
    (of_decide_eq_true (by kernel_rfl)) (by unfold Func.isWrapper; first | (rw [if_pos (by decide +kernel)]; kernel_rfl) | (rw [if_neg (by decide +kernel)]; exact ⟨rfl, rfl⟩))
    (fun os started H enc _ F => lifted os started H enc F)
theorem proved : Rows.QuorumGrowsUptoSaid :=
  over
end Go.Proofs.Ytbdgjfcchmainaa.quorumGrows
