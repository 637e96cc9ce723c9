/- QuorumBytes: for every set, all signatures and every text of bulk at most 1048576 the law answers true, and its arguments read as they did. -/
import Derived.Test.YtbdgjfcchmainaaGreatRows
import Derived.Test.YtbdgjfcchmainaaGreatQbC
import Derived.Test.YtbdgjfcchmainaaGreatBulk7

namespace Go.Proofs.YtbdgjfcchmainaaGreat.quorumBytes
open Go.ChangeShapes Go.WideShapes Go.ChangeAt Go.RowKit Go.Sx
set_option linter.unusedVariables false
set_option maxRecDepth 100000
theorem bulk_sg {H : Type} : ∀ l : Sg, Rows.uptoBulkAll (l.map (sgD (H := H))) ≤ 1048576 → ∀ g ∈ l, g.1.size ≤ 1048576 ∧ g.2.size ≤ 1048576
  | [], _ => fun b hb => absurd hb List.not_mem_nil
  | c :: l, h => by
    have e : Rows.uptoBulkAll ((c :: l).map (sgD (H := H))) = (c.1.size + c.2.size + 3) + Rows.uptoBulkAll (l.map (sgD (H := H))) := by
      simp only [List.map_cons, Rows.uptoBulkAll, sgD, Rows.uptoBulk, Array.length_toList]
      show _ = (c.1.data.size + c.2.data.size + 3) + _
      omega
    have ih := bulk_sg (H := H) l (by omega)
    intro b hb
    rcases List.mem_cons.1 hb with rfl | hb
    · omega
    · exact ih b hb
theorem sgs_ok {H : Type} {B : Sg} {m : Nat} {d : DataW H} (hd : (d = .nil ∧ B = []) ∨ d = .slice ((B.take m).map sgD) ((B.drop m).map sgD)) (hB : Rows.uptoBulk d ≤ 1048576) : sgOK B := by
  rcases hd with ⟨_, rfl⟩ | rfl
  · exact fun b hb => absurd hb List.not_mem_nil
  · simp only [Rows.uptoBulk] at hB
    have b1 := bulk_sg (H := H) (B.take m) (by omega)
    have b2 := bulk_sg (H := H) (B.drop m) (by omega)
    intro b hb
    rw [← List.take_append_drop m B, List.mem_append] at hb
    exact hb.elim (b1 b) (b2 b)
theorem own : ownKnob Tryz.prog.godebug = none := by kernel_rfl
theorem contract (H : Type) (enc : TypeId × Value → H) (W : World) (base : Nat) (args : Array Value) (ds gs : List (DataW H)) (before : List MemPlace)
    (hval : ∀ (j : Nat) t v, Tryz.f3.params[j]? = some t → args[j]? = some v → Value.okWide Tryz.prog W .any base t v)
    (hW : DataW.Whole enc Tryz.prog Tryz.f3.params.toList Rows.quorumBytesSpec.vars false W args.toList ds gs before) (hk : Rows.uptoSmall H (ds ++ gs) = true) :
    Calls Tryz.prog 3 args W fun e W' => ∃ v, e = .returned v ∧ Rows.quorumBytesSpec.post enc Tryz.prog Tryz.f3 false true false false W args v W' := by
  have hW' := hW
  obtain ⟨p, q, hA0, hV, rfl, hfz, hnd⟩ := hW
  have hA : DataW.TrodAll enc Tryz.prog W 0 (fun _ => true) true Tryz.f3.params.toList args.toList ds p := hA0
  rw [Tryz.params3] at hA hval
  obtain ⟨v0, vs0, d0, ds0, p0, q0, hargs, rfl, rfl, h0, r0⟩ := trodAll_cons hA
  obtain ⟨v1, vs1, d1, ds1, p1, q1, rfl, rfl, rfl, h1, r1⟩ := trodAll_cons r0
  obtain ⟨v2, vs2, d2, ds2, p2, q2, rfl, rfl, rfl, h2, r2⟩ := trodAll_cons r1
  obtain ⟨rfl, rfl, rfl⟩ := trodAll_nil r2
  obtain rfl : args = #[v0, v1, v2] := by cases args; simp_all
  obtain ⟨rfl, rfl⟩ := trodVars_none hV
  obtain ⟨M, kv, y, qs, rfl, hM, hkv, hy, rfl⟩ := set_cells (hval 0 24 v0 rfl rfl) h0
  obtain ⟨l1, ss, m, hH1, hro1, hsl1, hm1, _⟩ := in_strs Tryz.underlying22 Tryz.underlying9 (by kernel_rfl) hkv hy (hrel_init W) (by decide) (fun i s h => (by cases h))
  obtain ⟨l2, B, k, hH2, _, hsl2, hm2, hd⟩ := in_sgs (hval 1 25 v1 rfl rfl) h1 hH1 (by decide) hro1
  obtain ⟨a2, rfl, rfl, rfl, w2⟩ := Go.ChangeMaps.open_string Tryz.underlying9 (hval 2 9 v2 rfl rfl) h2
  have hB := bulks.bound hk
  have z0 : a2.size = a2.data.size := rfl
  simp only [List.append_nil, Rows.uptoBulkAll] at hB
  have hs2 : a2.size ≤ 1048576 := by
    simp only [Rows.uptoBulk, Array.length_toList] at hB
    omega
  have hz := sgs_ok hd (by omega)
  have hc := law_below (xs := [.agg #[kv, .int .i64 M], v1, .string a2]) (okT.spec tQBytes (bytesW (x := fun _ => none) (m := m) (k := k) (ss := ss) (gs := B) (need := M) (text := a2) hm1 hm2 hz hs2)) hH2 ⟨⟨_, rfl, hsl1, rfl, trivial⟩, hsl2, rfl, trivial⟩ (by simp [ltT, ltC, ltB, ltA, idOK])
  refine hc.mono fun e W' ⟨he, hg⟩ => ?_
  exact ⟨_, he, law_post (tb := 4) hW' rfl rfl (by kernel_rfl) (by kernel_rfl) rfl Tryz.underlying4 hg⟩
theorem lifted (os : Os) (started : os.Started) (H : Type) (enc : TypeId × Value → H) (F : Stop.Interp) :
    ReturnsInHanded {} Tryz.checked os 3 .any ((Rows.OpenSpec.upto Rows.quorumBytesSpec).pre6 enc Tryz.prog Tryz.f3 Rows.quorumBytesUptoRow.domain false) (((Rows.OpenSpec.upto Rows.quorumBytesSpec).at F).post enc Tryz.prog Tryz.f3 false true false false) := by
  refine returnsInHanded_of_cond (C := Tryz.checked) (s := Rows.OpenSpec.upto Rows.quorumBytesSpec) (k := Rows.uptoSmall) rfl own started (by kernel_rfl) Tryz.func3
    (OpenSpec.witness (enc := enc) (C := Tryz.checked) (s := Rows.OpenSpec.upto Rows.quorumBytesSpec) (k := Rows.uptoSmall) rfl false ⟨#[], #[.agg #[.slice none 0 0, .int .i64 0], .slice none 0 0, .string ByteArray.empty], []⟩ 8 (by kernel_rfl) (by kernel_rfl) (by kernel_rfl)
      (x := ([.agg [.nil, .lit (.int .i64 0)], .nil, .lit (.string [])], [], [])) (by kernel_rfl) rfl (by kernel_rfl)) ?_
  intro W base args ds gs before hval hW _ hk _
  exact contract H enc W base args ds gs before hval hW hk
theorem over : Rows.quorumBytesUptoRow.holds Tryz.pinned (Rows.OpenSpec.upto Rows.quorumBytesSpec) :=
  OpenClaim.holds_of_cond 3 Tryz.f3 rfl rfl rfl rfl rfl rfl rfl ⟨rfl, rfl, rfl, rfl, rfl⟩ rfl rfl rfl rfl rfl (by kernel_rfl) Tryz.func3 (by kernel_rfl)
    (of_decide_eq_true (by kernel_rfl)) (by unfold Func.isWrapper; first | (rw [if_pos (by decide +kernel)]; kernel_rfl) | (rw [if_neg (by decide +kernel)]; exact ⟨rfl, rfl⟩))
    (fun os started H enc _ F => lifted os started H enc F)
theorem proved : Rows.QuorumBytesUptoSaid :=
  over
end Go.Proofs.YtbdgjfcchmainaaGreat.quorumBytes
