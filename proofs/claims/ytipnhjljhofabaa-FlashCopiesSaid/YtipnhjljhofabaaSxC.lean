/- What comes in: slices of bools. -/
import Derived.Test.YtipnhjljhofabaaSxB
import Derived.Deep.Slices

set_option linter.unusedVariables false
set_option linter.unusedSimpArgs false
namespace Go.Sx
open Go.ChangeShapes Go.WideShapes Go.ChangeAt Go.RowKit Go.Deep

/-- A row of cells that came in, by its values. -/
theorem hrel_row {W : World} {ρ : Nat → Loc} {n : Nat} {Hs : Hp} {a : Addr} {len cap z : Nat} {c : Array Value} {T : TypeId} {fr : Nat × Nat} {vs : List Value} {b : Body}
    (hH : HRel (· < W.heap.size) W ρ n Hs W) (hn : n < 1000) (hro : ∀ i s, Hs.get i = some s → s.wr = false)
    (hz0 : 0 < z) (hs : a.spot = none) (hb : W.heap[a.block]? = some (.cells c T fr)) (hl : len ≤ cap) (hvs : vs.length = cap * z) (hcell : ∀ i, i < vs.length → W.cell? (a.add i) = vs[i]?)
    (hlt : b.lt n = true) (hnm : ∀ es, b ≠ .mp es) (hcr : All2 (crel ρ) b.cells vs) :
    ∃ l, HRel (· < W.heap.size) W (upd ρ n l) (n + 1) (Hs.put n ⟨false, b⟩) W ∧ (∀ i s, (Hs.put n ⟨false, b⟩).get i = some s → s.wr = false) ∧ slrel l 0 len z (.slice (some a) len cap) := by
  have hro' : ∀ i s, (Hs.put n ⟨false, b⟩).get i = some s → s.wr = false := by
    intro i s h
    rw [Hp.get_put] at h
    split at h
    · cases h; rfl
    · exact hro i s h
  have hblk : a.block < W.heap.size := (Array.getElem?_eq_some_iff.1 hb).1
  have hlen := hcr.length
  have hsz : vs.length ≠ 0 → a.off + vs.length ≤ c.size := by
    intro h
    have := hcell (vs.length - 1) (by omega)
    rw [cell_at hs hb, List.getElem?_eq_getElem (by omega)] at this
    have := (Array.getElem?_eq_some_iff.1 this).1
    omega
  have hobj : ∀ l : Loc, RowOK ρ W l false b.cells → ObjOK ρ W l ⟨false, b⟩ := by
    intro l h
    unfold ObjOK
    cases hbb : b with
    | mp es => exact absurd hbb (hnm es)
    | _ => simp only [hbb] at h ⊢; exact h
  by_cases h00 : vs.length = 0
  · refine ⟨⟨some a.block, 0, 0⟩, hrel_in hH hn _ _ hlt (hobj _ ?_) (fun k hk => by cases hk; exact hblk) hro, hro', ?_⟩
    · refine ⟨c, T, fr, hb, Nat.zero_le _, by rw [hlen, h00]; exact Nat.le_refl _, ?_, fun h => by cases h⟩
      intro j x hj
      have : j < b.cells.length := (List.getElem?_eq_some_iff.1 hj).1
      omega
    · by_cases hc : cap = 0
      · refine ⟨cap, a.off, hl, by simp [hc], fun h => absurd hc h, ?_⟩
        cases a; cases hs; rfl
      · rcases Nat.mul_eq_zero.1 (hvs ▸ h00) with h | h
        · exact absurd h hc
        · omega
  · refine ⟨⟨some a.block, a.off, cap * z⟩, hrel_in hH hn _ _ hlt (hobj _ ?_) (fun k hk => by cases hk; exact hblk) hro, hro', ?_⟩
    · refine ⟨c, T, fr, hb, by simp only; have := hsz h00; omega, by simp only; omega, ?_, fun h => by cases h⟩
      intro j x hj
      have hj' : j < vs.length := by rw [← hlen]; exact (List.getElem?_eq_some_iff.1 hj).1
      obtain ⟨y, hy, hr⟩ := hcr.get hj
      exact ⟨y, by rw [← cell_at hs hb, hcell j hj', hy], hr⟩
    · refine ⟨cap, a.off, hl, by simp, fun h => by simp, ?_⟩
      cases a; cases hs; rfl
/-- A slice of bools. -/
theorem in_bools {H : Type} {enc : TypeId × Value → H} {P : Program} {W : World} {b0 : Nat} {t e : TypeId} {v : Value} {d : DataW H} {ps : List MemPlace} {ρ : Nat → Loc} {n : Nat} {Hs : Hp}
    (ht : P.underlying t = some (.slice e)) (he : P.underlying e = some .bool) (hc : P.cellsOf e = 1) (hval : Value.okWide P W .any b0 t v)
    (h0 : DataW.Trod enc P W 0 (fun _ => true) true t v d ps) (hH : HRel (· < W.heap.size) W ρ n Hs W) (hn : n < 1000) (hro : ∀ i s, Hs.get i = some s → s.wr = false) :
    ∃ (l : Loc) (bs : List Bool) (m : Nat), HRel (· < W.heap.size) W (upd ρ n l) (n + 1) (Hs.put n ⟨false, .pl (bs.map Value.bool)⟩) W ∧ (∀ i s, (Hs.put n ⟨false, .pl (bs.map Value.bool)⟩).get i = some s → s.wr = false) ∧ slrel l 0 m 1 v ∧ m ≤ bs.length := by
  obtain ⟨a0, len, cap, rfl⟩ := okWide_slice ht hval
  obtain ⟨fuel, hf⟩ := h0
  rcases open_slice ht hf with ⟨hcs, hx⟩ | ⟨a, len', cap', m, n', D, Pl, hcs, _, hl, hm, hmm, hx, hall⟩
  · simp only [Value.cells] at hcs
    cases hcs
    refine ⟨⟨none, 0, 0⟩, [], 0, hrel_in hH hn _ _ rfl rfl (fun k hk => by cases hk) hro, ?_, ⟨rfl, .inl rfl⟩, Nat.le_refl _⟩
    intro i s h
    rw [Hp.get_put] at h
    split at h
    · cases h; rfl
    · exact hro i s h
  · simp only [Value.cells] at hcs
    cases hcs
    simp only [if_true] at hmm
    subst hmm
    obtain ⟨hs, c, T, fr, hb⟩ := spot_none ht hval
    have each : ∀ i, i < m → ∃ b, W.cell? (a.add i) = some (.bool b) := by
      intro i hi
      obtain ⟨cs', h1, h2⟩ := hall i hi
      obtain ⟨b, rfl, _⟩ := DataW.trod_bool he h2
      rw [hc, Nat.mul_one] at h1
      exact ⟨b, cell_of_cells?_one h1⟩
    obtain ⟨bs, hbl, hbs⟩ : ∃ bs : List Bool, bs.length = m ∧ ∀ i, i < m → W.cell? (a.add i) = some (.bool (bs.getD i false)) := by
      refine ⟨(List.range m).map fun i => (match W.cell? (a.add i) with
        | some (.bool b) => b
        | _ => false), by simp, fun i hi => ?_⟩
      obtain ⟨b, hbb⟩ := each i hi
      rw [List.getD_eq_getElem?_getD, List.getElem?_map, List.getElem?_range hi]
      simp only [Option.map_some, Option.getD_some, hbb]
    obtain ⟨l, g1, g2, g3⟩ := hrel_row (b := .pl (bs.map Value.bool)) (vs := bs.map Value.bool) (z := 1) hH hn hro (by decide) hs hb hl (by simp [hbl]) (fun i hi => by
      have hi' : i < bs.length := by simpa using hi
      rw [hbs i (by omega), List.getElem?_map, List.getD_eq_getElem?_getD, List.getElem?_eq_getElem hi']; rfl) rfl (by simp) (all2_v_mk _)
    exact ⟨l, bs, len, g1, g2, g3, by omega⟩
end Go.Sx
