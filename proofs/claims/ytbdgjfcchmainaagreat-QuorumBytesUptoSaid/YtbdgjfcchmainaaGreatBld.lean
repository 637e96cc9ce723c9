/- strings.Builder, wherever it lies: copyCheck, String. -/
import Derived.Test.YtbdgjfcchmainaaGreatSxC
import Derived.Shelf.Strings.BuilderF
import Derived.Test.YtbdgjfcchmainaaGreatChecked
import Derived.Shelf.SortM.Plain
import Derived.Shelf.SortM.SortNone
import Derived.Shelf.SlicesG.CompactS

set_option linter.unusedVariables false
set_option linter.unusedSimpArgs false
namespace Go.Proofs
open Go.Shelf Go.RowKit
variable {P : Program} {ρ : Ren}
set_option maxHeartbeats 1000000 in
set_option maxRecDepth 100000 in
theorem ck_used (L : Lays.n240 P ρ) (X : Builder.X72 P ρ) (b o : Nat) (w : World) (h0 : w.cell? ⟨b, o, none⟩ = some (.pointer (some ⟨b, o, none⟩))) :
    Calls P (ρ.f 240) #[.pointer (some ⟨b, o, none⟩)] w fun e w' => e = .returned (.tuple #[]) ∧ w' = w := by
  obtain ⟨j, hj, _⟩ := Option.map_eq_some_iff.1 X.sizeBuilder
  have mixed := L.mixed
  have t72 := L.t72; have a72 := L.a72; have z72 := L.z72; have v72 := L.v72; have u72 := run_underlying L.t72
  have t70 := L.t70; have a70 := L.a70; have z70 := L.z70; have v70 := L.v70; have u70 := run_underlying L.t70
  have t9 := L.t9; have a9 := L.a9; have z9 := L.z9; have v9 := L.v9; have u9 := run_underlying L.t9
  have t4 := L.t4; have a4 := L.a4; have z4 := L.z4; have v4 := L.v4; have u4 := run_underlying L.t4
  have t164 := L.t164; have a164 := L.a164; have z164 := L.z164; have v164 := L.v164; have u164 := run_underlying L.t164
  go_enter L.f240, Body.n240_ntmps ρ
  go_wp2
  rw [Lib.run_neq_ptr_same w _ L.t70 hj]
  go_wp2
  go_end0
  exact ⟨rfl, rfl⟩
set_option maxHeartbeats 1000000 in
set_option maxRecDepth 100000 in
theorem ck_fresh (L : Lays.n240 P ρ) (X : Builder.X72 P ρ) (b o T c : Nat) (w : World) (h0 : w.cell? ⟨b, o, none⟩ = some (.pointer none)) (hsh : w.shape? b = some (T, c)) (hoc : o < c) (hlies : liesAt P P.depth T (c / P.cellsOf T) o (ρ.t 72) 1 = true) (hfz : w.frozen? ⟨b, o, none⟩ = false) :
    Calls P (ρ.f 240) #[.pointer (some ⟨b, o, none⟩)] w fun e w' => e = .returned (.tuple #[]) ∧ w' = w.setCell ⟨b, o, none⟩ (.pointer (some ⟨b, o, none⟩)) := by
  obtain ⟨j, hj, hjs⟩ := Option.map_eq_some_iff.1 X.sizeBuilder
  have mixed := L.mixed
  have t72 := L.t72; have a72 := L.a72; have z72 := L.z72; have v72 := L.v72; have u72 := run_underlying L.t72
  have t70 := L.t70; have a70 := L.a70; have z70 := L.z70; have v70 := L.v70; have u70 := run_underlying L.t70
  have t9 := L.t9; have a9 := L.a9; have z9 := L.z9; have v9 := L.v9; have u9 := run_underlying L.t9
  have t4 := L.t4; have a4 := L.a4; have z4 := L.z4; have v4 := L.v4; have u4 := run_underlying L.t4
  have t164 := L.t164; have a164 := L.a164; have z164 := L.z164; have v164 := L.v164; have u164 := run_underlying L.t164
  go_enter L.f240, Body.n240_ntmps ρ
  go_wp2
  rw [Lib.run_to_unsafe w ⟨b, o, none⟩ L.t70 L.t164 hj (by rw [hjs]; decide) hsh hoc]
  simp only [Result.andThen]
  rw [Oper.upon_value]
  go_wp2
  rw [run_callFunc_extern L.f276 (by kernel_rfl) (by kernel_rfl) (by kernel_rfl) (e := Extern.AbiNoEscape.same) (by kernel_rfl)]
  rw [Lib.run_noEscape]
  simp only [Result.andThen]
  rw [Oper.upon_value]
  go_wp2
  rw [Lib.run_from_unsafe w ⟨b, o, none⟩ L.t164 L.t70 hj hsh hlies]
  simp only [Result.andThen]
  rw [Oper.upon_value]
  go_wp2
  go_end0
  exact ⟨rfl, rfl⟩
set_option maxHeartbeats 1000000 in
set_option maxRecDepth 100000 in
theorem str_some (L : Lays.n169 P ρ) (X : Builder.Extra P ρ) (b o g cap c : Nat) (l : List UInt8) (w : World) (h0 : l ≠ []) (k1 : w.cell? ⟨b, o + 1, none⟩ = some (.slice (some ⟨g, 0, none⟩) l.length cap)) (hcap : l.length ≤ cap) (hsh : w.shape? g = some (ρ.t 5, c)) (hlc : l.length ≤ c) (h63 : l.length ≤ 9223372036854775807)
    (hcell : ∀ j x, l[j]? = some x → w.cell? ((⟨g, 0, none⟩ : Addr).add j) = some (.int .u8 x.toNat)) :
    Calls P (ρ.f 169) #[.pointer (some ⟨b, o, none⟩)] w fun e w' => e = .returned (.string ⟨l.toArray⟩) ∧ w' = w.drew.freeze ⟨g, 0, none⟩ l.length := by
  have hl0 : l.length ≠ 0 := by simpa using h0
  have c1 : w.drew.cell? ⟨b, o + 1, none⟩ = some (.slice (some ⟨g, 0, none⟩) l.length cap) := k1
  have hSD : (Builtin.unsafeSliceData_ #[(ρ.t 37)] (ρ.t 127) #[.slice (some ⟨g, 0, none⟩) l.length cap]).run P w.drew = .ok (.pointer (some ⟨g, 0, none⟩)) w.drew :=
    Lib.run_unsafeSliceData_row _ _ _ _ _ _ (by omega)
  have hUS : (Builtin.unsafeString_ #[(ρ.t 127), (ρ.t 3)] (ρ.t 9) #[.pointer (some ⟨g, 0, none⟩), .int .i64 l.length]).run P w.drew = .ok (.string ⟨l.toArray⟩) (w.drew.freeze ⟨g, 0, none⟩ l.length) :=
    Lib.run_unsafeString_row w.drew (ρ.t 127) (ρ.t 3) (ρ.t 9) (ρ.t 5) L.t127 X.cellsByte g c hsh l h0 hlc h63 hcell
  have mixed := L.mixed
  have t72 := L.t72; have a72 := L.a72; have z72 := L.z72; have v72 := L.v72; have u72 := run_underlying L.t72
  have t70 := L.t70; have a70 := L.a70; have z70 := L.z70; have v70 := L.v70; have u70 := run_underlying L.t70
  have t37 := L.t37; have a37 := L.a37; have z37 := L.z37; have v37 := L.v37; have u37 := run_underlying L.t37
  have t127 := L.t127; have a127 := L.a127; have z127 := L.z127; have v127 := L.v127; have u127 := run_underlying L.t127
  have t3 := L.t3; have a3 := L.a3; have z3 := L.z3; have v3 := L.v3; have u3 := run_underlying L.t3
  have t9 := L.t9; have a9 := L.a9; have z9 := L.z9; have v9 := L.v9; have u9 := run_underlying L.t9
  have t5 := X.t5; have a5 := X.a5; have z5 := X.z5; have v5 := X.v5; have u5 := run_underlying X.t5
  go_enter L.f169, Body.n169_ntmps ρ
  go_wp2
  go_region_o
  all_goals (go_wp2; go_ret; exact ⟨rfl, rfl⟩)
set_option maxHeartbeats 1000000 in
set_option maxRecDepth 100000 in
theorem str_nil (L : Lays.n169 P ρ) (X : Builder.Extra P ρ) (b o : Nat) (w : World) (k1 : w.cell? ⟨b, o + 1, none⟩ = some (.slice none 0 0)) :
    Calls P (ρ.f 169) #[.pointer (some ⟨b, o, none⟩)] w fun e w' => e = .returned (.string ⟨#[]⟩) ∧ w' = w.drew := by
  have hUS := Any.unsafeString_none L X
  have c1 : w.drew.cell? ⟨b, o + 1, none⟩ = some (.slice none 0 0) := k1
  have hSD : (Builtin.unsafeSliceData_ #[(ρ.t 37)] (ρ.t 127) #[.slice none 0 0]).run P w.drew = .ok (.pointer none) w.drew := rfl
  have mixed := L.mixed
  have t72 := L.t72; have a72 := L.a72; have z72 := L.z72; have v72 := L.v72; have u72 := run_underlying L.t72
  have t70 := L.t70; have a70 := L.a70; have z70 := L.z70; have v70 := L.v70; have u70 := run_underlying L.t70
  have t37 := L.t37; have a37 := L.a37; have z37 := L.z37; have v37 := L.v37; have u37 := run_underlying L.t37
  have t127 := L.t127; have a127 := L.a127; have z127 := L.z127; have v127 := L.v127; have u127 := run_underlying L.t127
  have t3 := L.t3; have a3 := L.a3; have z3 := L.z3; have v3 := L.v3; have u3 := run_underlying L.t3
  have t9 := L.t9; have a9 := L.a9; have z9 := L.z9; have v9 := L.v9; have u9 := run_underlying L.t9
  have t5 := X.t5; have a5 := X.a5; have z5 := X.z5; have v5 := X.v5; have u5 := run_underlying X.t5
  go_enter L.f169, Body.n169_ntmps ρ
  go_wp2
  go_region_o
  all_goals (go_wp2; go_ret; exact ⟨rfl, rfl⟩)
end Go.Proofs

/- strings.Builder in the symbolic heap. -/
set_option linter.unusedVariables false
set_option linter.unusedSimpArgs false
namespace Go.Sx
open Go.Shelf Go.RowKit Go.Proofs
variable {P : Program} {σ : Ren} {H : Hp} {n : Nat}
theorem ck_fresh_S (L : Lays.n240 P σ) (X : Builder.X72 P σ) {i j o T c : Nat} {cs cs' : List SV} {s : SO} (hg : H.get i = some ⟨true, .sv cs⟩) (hc : cs[o]? = some (.v (.pointer none))) (hj : H.get j = some s) (hs : s.b = .mp (.shp i T (some c)))
    (hoc : o < c) (hlies : liesAt P P.depth T (c / P.cellsOf T) o (σ.t 72) 1 = true) (hcs : splice cs o [.ptr i o] = cs') :
    SpecAt P (σ.f 240) [.ptr i o] H n (.tup []) (H.put i ⟨true, .sv cs'⟩) n := by
  intro F w0 w ρ xs hH hz hl
  match xs, hz with
  | [x], ⟨⟨b, hb, hx⟩, _⟩ =>
    have hgh := hH.obj j s hj
    unfold ObjOK at hgh
    rw [hs] at hgh
    obtain ⟨h0, k, hk, hck⟩ := hgh.2 (by rw [hb]; simp)
    obtain rfl := hck c rfl
    obtain ⟨ca, fr, e1, e2⟩ := hH.shp i T c b hk hb
    rw [h0, Nat.zero_add] at hx
    subst hx
    have hr := obj_row hH hg (by simp)
    have hr' := hr
    simp only [RowOK, hb] at hr'
    obtain ⟨ca', T', fr', q1, q2, q3, q4, q5⟩ := hr'
    rw [e1] at q1; cases q1
    have holt : o < cs.length := (List.getElem?_eq_some_iff.1 hc).1
    obtain ⟨y, y1, y2⟩ := q4 o _ hc
    rw [h0, Nat.zero_add] at y1
    have y2 : y = .pointer none := y2
    subst y2
    have hfz : w.frozen? ⟨b, o, none⟩ = false := by
      have := q5 trivial o (by have : cs.length ≤ (ρ i).size := q3; omega)
      rw [h0, Nat.zero_add] at this
      simp only [World.frozen?, e1]
      simp; omega
    refine (ck_fresh L X b o T c w (by rw [cell_of e1, y1]) (by simp [World.shape?, e1, e2]) hoc hlies hfz).mono ?_
    rintro e w' ⟨rfl, rfl⟩
    have hidi := (hH.lt i _ hg).1
    have hz1 : All2 (crel ρ) [SV.ptr i o] [Value.pointer (some ⟨b, o, none⟩)] := ⟨⟨b, hb, by rw [h0, Nat.zero_add]⟩, trivial⟩
    obtain ⟨c2, T2, fr2, p1, p2, p3, p4⟩ := row_write hr hb o _ _ hz1 (by simp [Body.cells]; omega)
    rw [e1] at p1; cases p1
    rw [h0, Nat.zero_add] at p4
    rw [setCell_wset e1]
    refine ⟨_, ρ, rfl, ⟨[], rfl, trivial⟩, rfl, ?_, Ext.refl _ _, Nat.le_refl _⟩
    refine hH.write i _ ⟨true, .sv cs'⟩ hg rfl ?_ ?_ rfl rfl rfl (by simp [wset]) (fun q hq => wset_heap_ne _ _ _ _ (fun e => hq (by rw [hb, e]))) (wset_keep e1 (by simp))
    · have hlt := (hH.lt i _ hg).2
      simp only [Body.lt, List.all_eq_true] at hlt ⊢
      intro v hv
      rw [← hcs] at hv
      rcases mem_splice hv with h | h
      · exact hlt v h
      · rw [List.mem_singleton.1 h]; exact hidi
    · refine ObjOK.mk (by simp) ?_ ((obj_ex hH hg (by simp)).to rfl (fun _ => rfl))
      show RowOK _ _ _ true (Body.sv cs').cells
      rw [← hcs]; exact p4
theorem ck_used_S (L : Lays.n240 P σ) (X : Builder.X72 P σ) {i o : Nat} {cs : List SV} {s : SO} (hg : H.get i = some s) (hb' : s.b = .sv cs) (hc : cs[o]? = some (.ptr i o)) :
    SpecAt P (σ.f 240) [.ptr i o] H n (.tup []) H n := by
  intro F w0 w ρ xs hH hz hl
  match xs, hz with
  | [x], ⟨⟨b, hb, hx⟩, _⟩ =>
    subst hx
    have hr := obj_row hH hg (by rw [hb']; simp)
    rw [hb'] at hr
    simp only [RowOK, hb] at hr
    obtain ⟨ca', T', fr', q1, q2, q3, q4, q5⟩ := hr
    obtain ⟨y, y1, y2⟩ := q4 o _ hc
    obtain ⟨b2, hb2, y3⟩ := (y2 : arel ρ (.ptr i o) y)
    rw [hb] at hb2; cases hb2
    subst y3
    refine (ck_used L X b ((ρ i).off + o) w (by rw [cell_of q1, y1])).mono ?_
    rintro e w' ⟨rfl, rfl⟩
    exact ⟨_, ρ, rfl, ⟨[], rfl, trivial⟩, rfl, hH, Ext.refl _ _, Nat.le_refl _⟩
theorem str_nil_S (L : Lays.n169 P σ) (X : Builder.Extra P σ) {i o z : Nat} {cs : List SV} {s : SO} (hg : H.get i = some s) (hb' : s.b = .sv cs) (hc : cs[o + 1]? = some (.sl 0 0 0 z)) :
    SpecAt P (σ.f 169) [.ptr i o] H n (.v (.string ⟨#[]⟩)) H n := by
  intro F w0 w ρ xs hH hz hl
  match xs, hz with
  | [x], ⟨⟨b, hb, hx⟩, _⟩ =>
    subst hx
    have hr := obj_row hH hg (by rw [hb']; simp)
    rw [hb'] at hr
    simp only [RowOK, hb] at hr
    obtain ⟨ca', T', fr', q1, q2, q3, q4, q5⟩ := hr
    obtain ⟨y, y1, y2⟩ := q4 (o + 1) _ hc
    have y2 : slrel (ρ 0) 0 0 z y := y2
    simp only [slrel, hH.nil.1, hH.nil.2] at y2
    have y3 := y2.2.zero
    subst y3
    refine (str_nil L X b ((ρ i).off + o) w (by rw [cell_of q1, Nat.add_assoc, y1])).mono ?_
    rintro e w' ⟨rfl, rfl⟩
    exact ⟨_, ρ, rfl, rfl, rfl, hH.drew, Ext.refl _ _, Nat.le_refl _⟩
theorem str_some_S (L : Lays.n169 P σ) (X : Builder.Extra P σ) {i o r k q : Nat} {cs : List SV} {s t : SO} {bs : List Int} (hg : H.get i = some s) (hb' : s.b = .sv cs) (hc : cs[o + 1]? = some (.sl r 0 k 1)) (hr : H.get r = some ⟨true, .ints .u8 bs⟩)
    (hk : k = bs.length) (hk0 : k ≠ 0) (hk1 : k ≤ 9223372036854775807) (hq : H.get q = some t) (ht : t.b = .mp (.shp r (σ.t 5) none)) (hby : ∀ y ∈ bs, 0 ≤ y ∧ y ≤ 255) :
    SpecAt P (σ.f 169) [.ptr i o] H n (.v (.string (tx bs))) (H.put r ⟨false, .ints .u8 bs⟩) n := by
  intro F w0 w ρ xs hH hz hl
  match xs, hz with
  | [x], ⟨⟨b, hb, hx⟩, _⟩ =>
    subst hx
    have hri := obj_row hH hg (by rw [hb']; simp)
    rw [hb'] at hri
    simp only [RowOK, hb] at hri
    obtain ⟨ca', T', fr', q1, q2, q3, q4, q5⟩ := hri
    obtain ⟨y, y1, y2⟩ := q4 (o + 1) _ hc
    have y2 : slrel (ρ r) 0 k 1 y := y2
    cases hbr : (ρ r).blk with
    | none => simp only [slrel, hbr] at y2; exact absurd y2.1 hk0
    | some g =>
      simp only [slrel, hbr] at y2
      obtain ⟨cap, a, z1, z2, z3, z4⟩ := y2
      have hgh := hH.obj q t hq
      unfold ObjOK at hgh
      rw [ht] at hgh
      obtain ⟨h0, c, hsh, _⟩ := hgh.2 (by rw [hbr]; simp)
      have ha := z3 (by omega)
      rw [h0] at ha
      subst ha
      subst z4
      obtain ⟨ca, fr, e1, e2⟩ := hH.shp r _ c g hsh hbr
      have hrr := obj_row hH hr (by simp)
      have hrr' := hrr
      simp only [RowOK, hbr] at hrr
      obtain ⟨ca2, T2, fr2, p1, p2, p3, p4, p5⟩ := hrr
      rw [e1] at p1; cases p1
      have hl1 : (tx bs).data.toList.length = bs.length := by
        have := tx_sz bs
        exact this
      have hcell : ∀ j x, (tx bs).data.toList[j]? = some x → w.cell? ((⟨g, 0, none⟩ : Addr).add j) = some (.int .u8 x.toNat) := by
        intro j x hx
        have hj : j < bs.length := by rw [← hl1]; exact (List.getElem?_eq_some_iff.1 hx).1
        have hx2 : x = UInt8.ofNat (bs[j]).toNat := by
          simp [tx, hj] at hx
          exact hx.symm
        obtain ⟨v, v1, v2⟩ := p4 j (.v (.int .u8 bs[j])) (by simp [Body.cells, hj])
        have v2 : v = .int .u8 bs[j] := v2
        rw [h0, Nat.zero_add] at v1
        have hb2 := hby bs[j] (List.getElem_mem hj)
        rw [add_plain, Nat.zero_add, cell_of e1, v1, v2, hx2]
        congr 2
        have : (UInt8.ofNat (bs[j]).toNat).toNat = (bs[j]).toNat := by
          rw [UInt8.toNat_ofNat']; omega
        omega
      have hbl : bs.length ≤ ca.size := by
        have h1 : bs.length ≤ (ρ r).size := by simpa [Body.cells] using p3
        omega
      have hrun := str_some L X b ((ρ i).off + o) g cap c (tx bs).data.toList w (fun e => by rw [e] at hl1; simp at hl1; omega) (by rw [cell_of q1, Nat.add_assoc, y1, hl1, hk]) (by omega) (by simp [World.shape?, e1, e2]) (by omega) (by omega) hcell
      refine hrun.mono ?_
      rintro e w' ⟨rfl, rfl⟩
      refine ⟨_, ρ, rfl, rfl, rfl, ?_, Ext.refl _ _, Nat.le_refl _⟩
      have hD := hH.drew
      obtain ⟨fr3, hnew⟩ : ∃ fr3, (w.drew.freeze ⟨g, 0, none⟩ (tx bs).data.toList.length).heap[g]? = some (.cells ca (σ.t 5) fr3) := by
        unfold World.freeze
        rw [if_neg (by omega)]
        have e1' : w.drew.heap[g]? = some (.cells ca (σ.t 5) fr) := e1
        obtain ⟨lo, hi⟩ := fr
        exact ⟨_, by rw [Array.getElem?_modify, if_pos rfl, e1']; rfl⟩
      have hoth : ∀ m, m ≠ g → (w.drew.freeze ⟨g, 0, none⟩ (tx bs).data.toList.length).heap[m]? = w.drew.heap[m]? := by
        intro m hm
        unfold World.freeze
        rw [if_neg (by omega)]
        show (w.drew.heap.modify g _)[m]? = _
        rw [Array.getElem?_modify, if_neg (Ne.symm hm)]
      refine hD.write r _ ⟨false, .ints .u8 bs⟩ hr rfl rfl ?_ ?_ ?_ ?_ ?_ (fun m hm => hoth m (fun e => hm (by rw [hbr, e]))) (ShKeep.of_one (b := g) (c := ca) (c' := ca) (T := σ.t 5) (fr := fr) (fr' := fr3) e1 hnew rfl hoth)
      · refine ObjOK.mk (by simp) ?_ ((obj_ex hH hr (by simp)).to rfl (fun h => by cases h))
        simp only [RowOK, hbr]
        exact ⟨ca, _, fr3, hnew, p2, p3, p4, fun h => by cases h⟩
      all_goals (unfold World.freeze; rw [if_neg (by omega)])
      simp
theorem str_frz_S (L : Lays.n169 P σ) (X : Builder.Extra P σ) {i o r k q : Nat} {cs : List SV} {s t : SO} {bs : List Int} (hg : H.get i = some s) (hb' : s.b = .sv cs) (hc : cs[o + 1]? = some (.sl r 0 k 1)) (hr : H.get r = some ⟨true, .ints .u8 bs⟩)
    (hk : k = bs.length) (hk0 : k ≠ 0) (hk1 : k ≤ 9223372036854775807) (hq : H.get q = some t) (ht : t.b = .mp (.shp r (σ.t 5) none)) (hby : ∀ y ∈ bs, 0 ≤ y ∧ y ≤ 255) :
    SpecAt P (σ.f 169) [.ptr i o] H n (.v (.string (tx bs))) (H.put r ⟨false, .mp (.frz (σ.t 5) bs)⟩) n := by
  intro F w0 w ρ xs hH hz hl
  match xs, hz with
  | [x], ⟨⟨b, hb, hx⟩, _⟩ =>
    subst hx
    have hri := obj_row hH hg (by rw [hb']; simp)
    rw [hb'] at hri
    simp only [RowOK, hb] at hri
    obtain ⟨ca', T', fr', q1, q2, q3, q4, q5⟩ := hri
    obtain ⟨y, y1, y2⟩ := q4 (o + 1) _ hc
    have y2 : slrel (ρ r) 0 k 1 y := y2
    cases hbr : (ρ r).blk with
    | none => simp only [slrel, hbr] at y2; exact absurd y2.1 hk0
    | some g =>
      simp only [slrel, hbr] at y2
      obtain ⟨cap, a, z1, z2, z3, z4⟩ := y2
      have hgh := hH.obj q t hq
      unfold ObjOK at hgh
      rw [ht] at hgh
      obtain ⟨h0, c, hsh, _⟩ := hgh.2 (by rw [hbr]; simp)
      have ha := z3 (by omega)
      rw [h0] at ha
      subst ha
      subst z4
      obtain ⟨ca, fr, e1, e2⟩ := hH.shp r _ c g hsh hbr
      have hrr := obj_row hH hr (by simp)
      have hrr' := hrr
      simp only [RowOK, hbr] at hrr
      obtain ⟨ca2, T2, fr2, p1, p2, p3, p4, p5⟩ := hrr
      rw [e1] at p1; cases p1
      have hl1 : (tx bs).data.toList.length = bs.length := by
        have := tx_sz bs
        exact this
      have hcell : ∀ j x, (tx bs).data.toList[j]? = some x → w.cell? ((⟨g, 0, none⟩ : Addr).add j) = some (.int .u8 x.toNat) := by
        intro j x hx
        have hj : j < bs.length := by rw [← hl1]; exact (List.getElem?_eq_some_iff.1 hx).1
        have hx2 : x = UInt8.ofNat (bs[j]).toNat := by
          simp [tx, hj] at hx
          exact hx.symm
        obtain ⟨v, v1, v2⟩ := p4 j (.v (.int .u8 bs[j])) (by simp [Body.cells, hj])
        have v2 : v = .int .u8 bs[j] := v2
        rw [h0, Nat.zero_add] at v1
        have hb2 := hby bs[j] (List.getElem_mem hj)
        rw [add_plain, Nat.zero_add, cell_of e1, v1, v2, hx2]
        congr 2
        have : (UInt8.ofNat (bs[j]).toNat).toNat = (bs[j]).toNat := by
          rw [UInt8.toNat_ofNat']; omega
        omega
      have hbl : bs.length ≤ ca.size := by
        have h1 : bs.length ≤ (ρ r).size := by simpa [Body.cells] using p3
        omega
      have hrun := str_some L X b ((ρ i).off + o) g cap c (tx bs).data.toList w (fun e => by rw [e] at hl1; simp at hl1; omega) (by rw [cell_of q1, Nat.add_assoc, y1, hl1, hk]) (by omega) (by simp [World.shape?, e1, e2]) (by omega) (by omega) hcell
      refine hrun.mono ?_
      rintro e w' ⟨rfl, rfl⟩
      refine ⟨_, ρ, rfl, rfl, rfl, ?_, Ext.refl _ _, Nat.le_refl _⟩
      have hD := hH.drew
      obtain ⟨fr3, hnew, hf0, hf1⟩ : ∃ fr3 : Nat × Nat, (w.drew.freeze ⟨g, 0, none⟩ (tx bs).data.toList.length).heap[g]? = some (.cells ca (σ.t 5) fr3) ∧ fr3.1 = 0 ∧ bs.length ≤ fr3.2 := by
        unfold World.freeze
        rw [if_neg (by omega)]
        have e1' : w.drew.heap[g]? = some (.cells ca (σ.t 5) fr) := e1
        obtain ⟨lo, hi⟩ := fr
        refine ⟨(if lo == hi then (0, 0 + (tx bs).data.toList.length) else (min lo 0, max hi (0 + (tx bs).data.toList.length))), by rw [Array.getElem?_modify, if_pos rfl, e1']; rfl, ?_, ?_⟩
        · split
          · rfl
          · show min lo 0 = 0; omega
        · split
          · show bs.length ≤ 0 + _; omega
          · show bs.length ≤ max hi (0 + _); omega
      have hoth : ∀ m, m ≠ g → (w.drew.freeze ⟨g, 0, none⟩ (tx bs).data.toList.length).heap[m]? = w.drew.heap[m]? := by
        intro m hm
        unfold World.freeze
        rw [if_neg (by omega)]
        show (w.drew.heap.modify g _)[m]? = _
        rw [Array.getElem?_modify, if_neg (Ne.symm hm)]
      refine hD.write r _ ⟨false, .mp (.frz (σ.t 5) bs)⟩ hr rfl rfl ?_ ?_ ?_ ?_ ?_ (fun m hm => hoth m (fun e => hm (by rw [hbr, e]))) (ShKeep.of_one (b := g) (c := ca) (c' := ca) (T := σ.t 5) (fr := fr) (fr' := fr3) e1 hnew rfl hoth)
      · show FrzOK _ (ρ r) (σ.t 5) bs
        refine ⟨g, ca, fr3, hbr, hnew, h0, hbl, fun j y hy => ?_, hf0, hf1⟩
        obtain ⟨v, v1, v2⟩ := p4 j (.v (.int .u8 y)) (by simp [Body.cells, hy])
        have v2 : v = .int .u8 y := v2
        rw [h0, Nat.zero_add] at v1
        rw [v1, v2]
      all_goals (unfold World.freeze; rw [if_neg (by omega)])
      simp
theorem str_again_S (L : Lays.n169 P σ) (X : Builder.Extra P σ) {i o r k : Nat} {cs : List SV} {s t : SO} {bs : List Int} (hg : H.get i = some s) (hb' : s.b = .sv cs) (hc : cs[o + 1]? = some (.sl r 0 k 1)) (hr : H.get r = some t) (hrb : t.b = .mp (.frz (σ.t 5) bs))
    (hk : k = bs.length) (hk0 : k ≠ 0) (hk1 : k ≤ 9223372036854775807) (hby : ∀ y ∈ bs, 0 ≤ y ∧ y ≤ 255) :
    SpecAt P (σ.f 169) [.ptr i o] H n (.v (.string (tx bs))) H n := by
  intro F w0 w ρ xs hH hz hl
  match xs, hz with
  | [x], ⟨⟨b, hb, hx⟩, _⟩ =>
    subst hx
    have hri := obj_row hH hg (by rw [hb']; simp)
    rw [hb'] at hri
    simp only [RowOK, hb] at hri
    obtain ⟨ca', T', fr', q1, q2, q3, q4, q5⟩ := hri
    obtain ⟨y, y1, y2⟩ := q4 (o + 1) _ hc
    have y2 : slrel (ρ r) 0 k 1 y := y2
    have hfz := hH.obj r t hr
    unfold ObjOK at hfz
    rw [hrb] at hfz
    obtain ⟨g, ca, fr, hbr, e1, h0, hbl, p4, hf0, hf1⟩ := hfz
    simp only [slrel, hbr] at y2
    obtain ⟨cap, a, z1, z2, z3, z4⟩ := y2
    have ha := z3 (by omega)
    rw [h0] at ha
    subst ha
    subst z4
    have hl1 : (tx bs).data.toList.length = bs.length := by
      have := tx_sz bs
      exact this
    have hcell : ∀ j x, (tx bs).data.toList[j]? = some x → w.cell? ((⟨g, 0, none⟩ : Addr).add j) = some (.int .u8 x.toNat) := by
      intro j x hx
      have hj : j < bs.length := by rw [← hl1]; exact (List.getElem?_eq_some_iff.1 hx).1
      have hx2 : x = UInt8.ofNat (bs[j]).toNat := by
        simp [tx, hj] at hx
        exact hx.symm
      have v1 := p4 j bs[j] (by simp [hj])
      have hb2 := hby bs[j] (List.getElem_mem hj)
      rw [add_plain, Nat.zero_add, cell_of e1, v1, hx2]
      congr 2
      have : (UInt8.ofNat (bs[j]).toNat).toNat = (bs[j]).toNat := by
        rw [UInt8.toNat_ofNat']; omega
      omega
    have hrun := str_some L X b ((ρ i).off + o) g cap ca.size (tx bs).data.toList w (fun e => by rw [e] at hl1; simp at hl1; omega) (by rw [cell_of q1, Nat.add_assoc, y1, hl1, hk]) (by omega) (by simp [World.shape?, e1]) (by omega) (by omega) hcell
    refine hrun.mono ?_
    rintro e w' ⟨rfl, rfl⟩
    have hsame : w.drew.freeze ⟨g, 0, none⟩ (tx bs).data.toList.length = w.drew := by
      unfold World.freeze
      rw [if_neg (by omega)]
      have hh : (w.drew.heap.modify g fun
          | .cells c elem (lo, hi) => .cells c elem (if lo == hi then (0, 0 + (tx bs).data.toList.length) else (min lo 0, max hi (0 + (tx bs).data.toList.length)))
          | o => o) = w.drew.heap := by
        apply Array.ext_getElem?
        intro m
        rw [Array.getElem?_modify]
        split
        · rename_i hm
          subst hm
          have e1' : w.drew.heap[g]? = some (.cells ca (σ.t 5) fr) := e1
          rw [e1']
          obtain ⟨lo, hi⟩ := fr
          simp only at hf0 hf1
          subst hf0
          simp only [Option.map_some]
          rw [if_neg (by simp; omega)]
          congr 3
          show max hi (0 + _) = hi
          omega
        · rfl
      exact congrArg (fun h => ({ w.drew with heap := h } : World)) hh
    rw [hsame]
    exact ⟨_, ρ, rfl, rfl, rfl, hH.drew, Ext.refl _ _, Nat.le_refl _⟩
end Go.Sx

/- strings.Builder at this program. -/
set_option linter.unusedVariables false
set_option linter.unusedSimpArgs false
set_option maxRecDepth 100000
namespace Go.Proofs
open Go.Shelf Go.RowKit Go.Sx
def layCk_ren : Go.Shelf.Ren := ⟨fun | 240 => 111 | 276 => 114 | n => n, fun | 0 => 0 | 4 => 4 | 9 => 9 | 20 => 20 | 70 => 132 | 72 => 134 | 164 => 154 | 5 => 5 | 37 => 27 | n => n, fun n => n⟩
theorem layCk : Lays.n240 Tryz.prog layCk_ren where
  mixed := by kernel_rfl
  f240 := Tryz.func111.trans (congrArg some (by kernel_rfl))
  f276 := Tryz.func114.trans (congrArg some (by kernel_rfl))
  t0 := Tryz.underlying0
  a0 := Tryz.isAgg0
  z0 := Tryz.sizeOf0
  v0 := Tryz.zeroValue0
  t4 := Tryz.underlying4
  a4 := Tryz.isAgg4
  z4 := Tryz.sizeOf4
  v4 := Tryz.zeroValue4
  t9 := Tryz.underlying9
  a9 := Tryz.isAgg9
  z9 := Tryz.sizeOf9
  v9 := Tryz.zeroValue9
  t20 := Tryz.underlying20
  a20 := Tryz.isAgg20
  z20 := Tryz.sizeOf20
  v20 := Tryz.zeroValue20
  t70 := Tryz.underlying132
  a70 := Tryz.isAgg132
  z70 := Tryz.sizeOf132
  v70 := Tryz.zeroValue132
  t72 := Tryz.underlying134
  a72 := Tryz.isAgg134
  z72 := Tryz.sizeOf134
  v72 := Tryz.zeroValue134
  t164 := Tryz.underlying154
  a164 := Tryz.isAgg154
  z164 := Tryz.sizeOf154
  v164 := Tryz.zeroValue154
theorem layCk_extra : Builder.X72 Tryz.prog layCk_ren where
  sizeBuilder := by kernel_rfl
  liesBuilder := by kernel_rfl
def layStr_ren : Go.Shelf.Ren := ⟨fun | 169 => 98 | n => n, fun | 70 => 132 | 9 => 9 | 0 => 0 | 72 => 134 | 37 => 27 | 127 => 149 | 3 => 3 | 5 => 5 | n => n, fun n => n⟩
theorem layStr : Lays.n169 Tryz.prog layStr_ren where
  mixed := by kernel_rfl
  f169 := Tryz.func98.trans (congrArg some (by kernel_rfl))
  t0 := Tryz.underlying0
  a0 := Tryz.isAgg0
  z0 := Tryz.sizeOf0
  v0 := Tryz.zeroValue0
  t3 := Tryz.underlying3
  a3 := Tryz.isAgg3
  z3 := Tryz.sizeOf3
  v3 := Tryz.zeroValue3
  t9 := Tryz.underlying9
  a9 := Tryz.isAgg9
  z9 := Tryz.sizeOf9
  v9 := Tryz.zeroValue9
  t37 := Tryz.underlying27
  a37 := Tryz.isAgg27
  z37 := Tryz.sizeOf27
  v37 := Tryz.zeroValue27
  t70 := Tryz.underlying132
  a70 := Tryz.isAgg132
  z70 := Tryz.sizeOf132
  v70 := Tryz.zeroValue132
  t72 := Tryz.underlying134
  a72 := Tryz.isAgg134
  z72 := Tryz.sizeOf134
  v72 := Tryz.zeroValue134
  t127 := Tryz.underlying149
  a127 := Tryz.isAgg149
  z127 := Tryz.sizeOf149
  v127 := Tryz.zeroValue149
theorem layStr_extra : Builder.Extra Tryz.prog layStr_ren where
  sizeBuilder := by kernel_rfl
  liesBuilder := by kernel_rfl
  t5 := Tryz.underlying5
  a5 := Tryz.isAgg5
  z5 := Tryz.sizeOf5
  v5 := Tryz.zeroValue5
  infoByte := by kernel_rfl
  cellsByte := by kernel_rfl
  sizeByte := by kernel_rfl
  neB5 := by decide
theorem ckF {i j : Nat} {H : Hp} {n : Nat} {s : SO} {v : SV} (hg : H.get i = some ⟨true, .sv [.v (.pointer none), v]⟩) (hj : H.get j = some s) (hs : s.b = .mp (.shp i 134 (some 2))) :
    SpecAt Tryz.prog 111 [.ptr i 0] H n (.tup []) (H.put i ⟨true, .sv [.ptr i 0, v]⟩) n :=
  ck_fresh_S layCk layCk_extra (o := 0) hg rfl hj hs (by decide) layCk_extra.liesBuilder rfl
theorem ckU {i : Nat} {H : Hp} {n : Nat} {s : SO} {v : SV} (hg : H.get i = some s) (hs : s.b = .sv [.ptr i 0, v]) :
    SpecAt Tryz.prog 111 [.ptr i 0] H n (.tup []) H n :=
  ck_used_S layCk layCk_extra (o := 0) hg hs rfl
theorem strS {i r k q : Nat} {H : Hp} {n : Nat} {s t : SO} {v : SV} {bs : List Int} (hg : H.get i = some s) (hb : s.b = .sv [v, .sl r 0 k 1]) (hr : H.get r = some ⟨true, .ints .u8 bs⟩) (hk : k = bs.length) (hk0 : k ≠ 0) (hk1 : k ≤ 9223372036854775807)
    (hq : H.get q = some t) (ht : t.b = .mp (.shp r 5 none)) (hby : ∀ y ∈ bs, 0 ≤ y ∧ y ≤ 255) : SpecAt Tryz.prog 98 [.ptr i 0] H n (.v (.string (tx bs))) (H.put r ⟨false, .ints .u8 bs⟩) n :=
  str_some_S layStr layStr_extra (o := 0) hg hb rfl hr hk hk0 hk1 hq ht hby
end Go.Proofs

/- slices.Sort at a row of texts that may be written, by the shelf, in the symbolic heap; slices.Compact too. -/
set_option linter.unusedVariables false
set_option linter.unusedSimpArgs false
namespace Go.Sx
open Go.Shelf Go.RowKit Go.Proofs Go.Sort
variable {P : Program} {σ : Go.Shelf.Ren} {H : Hp} {n : Nat} {F : Nat → Prop} {w0 w : World} {ρ : Nat → Loc}
def byt8 (s : ByteArray) : List UInt8 := s.data.toList
theorem row_holds (hH : HRel F w0 ρ n H w) {i : Nat} {ss : List ByteArray} (hg : H.get i = some ⟨true, .strs ss⟩) {b : Nat} (hb : (ρ i).blk = some b) :
    Holds encStr w b (ρ i).off (ss.map byt8).toArray ∧ b < w.heap.size := by
  have hr := obj_row hH hg (by simp)
  simp only [RowOK, hb] at hr
  obtain ⟨c, T, fr, q1, q2, q3, q4, q5⟩ := hr
  refine ⟨fun j hj => ?_, (Array.getElem?_eq_some_iff.1 q1).1⟩
  have hj' : j < ss.length := by simpa using hj
  obtain ⟨y, y1, y2⟩ := q4 j (.v (.string ss[j])) (by simp [Body.cells, hj'])
  have y2 : y = .string ss[j] := y2
  subst y2
  refine ⟨?_, ?_⟩
  · show w.cell? _ = some (encStr _)
    have e : (ss.map byt8).toArray[j]! = byt8 ss[j] := by simp [hj']
    rw [e]
    unfold World.cell?
    rw [q1]
    exact y1
  · unfold World.frozen?
    rw [q1]
    have hc : (Body.cells (.strs ss)).length = ss.length := by simp [Body.cells]
    have := q5 trivial j (by omega)
    simp only [Bool.and_eq_false_iff, decide_eq_false_iff_not]
    omega
theorem row_put (hH : HRel F w0 ρ n H w) {i : Nat} {ss tt : List ByteArray} (hg : H.get i = some ⟨true, .strs ss⟩) (hl : tt.length = ss.length) {b : Nat} (hb : (ρ i).blk = some b) (q : Nat) (os : Array Obj) :
    HRel F w0 ρ n (H.put i ⟨true, .strs tt⟩) (grow (putRow encStr (Sort.ahead w q) b (ρ i).off (tt.map byt8).toArray) os) := by
  have hr := obj_row hH hg (by simp)
  simp only [RowOK, hb] at hr
  obtain ⟨c, T, fr, q1, q2, q3, q4, q5⟩ := hr
  have hc : (Body.cells (.strs ss)).length = ss.length := by simp [Body.cells]
  have hc' : (Body.cells (.strs tt)).length = tt.length := by simp [Body.cells]
  have hbl := (Array.getElem?_eq_some_iff.1 q1).1
  have h1 : (putRow encStr (Sort.ahead w q) b (ρ i).off (tt.map byt8).toArray).heap[b]? = some (.cells (putCells encStr (ρ i).off (tt.map byt8).toArray c) T fr) := by
    unfold putRow mapBlock Sort.ahead
    rw [Array.getElem?_modify, if_pos rfl, q1]
    rfl
  have h2 : ∀ k, k ≠ b → (putRow encStr (Sort.ahead w q) b (ρ i).off (tt.map byt8).toArray).heap[k]? = w.heap[k]? := fun k hk => by
    unfold putRow mapBlock Sort.ahead
    rw [Array.getElem?_modify, if_neg (fun e => hk e.symm)]
  have h3 : (putRow encStr (Sort.ahead w q) b (ρ i).off (tt.map byt8).toArray).heap.size = w.heap.size := by
    unfold putRow mapBlock Sort.ahead
    simp
  have h4 : (putCells encStr (ρ i).off (tt.map byt8).toArray c).size = c.size := by simp [putCells]
  have hw := hH.write (w' := putRow encStr (Sort.ahead w q) b (ρ i).off (tt.map byt8).toArray) i _ ⟨true, .strs tt⟩ hg rfl (by simp [Body.lt]) (ObjOK.mk (by simp) (by
      show RowOK _ _ _ true (Body.cells (.strs tt))
      simp only [RowOK, hb]
      refine ⟨_, T, fr, h1, by rw [h4]; exact q2, by omega, fun j x hx => ?_, q5⟩
      simp only [Body.cells, List.getElem?_map, Option.map_eq_some_iff] at hx
      obtain ⟨s, hs, rfl⟩ := hx
      have hj : j < tt.length := (List.getElem?_eq_some_iff.1 hs).1
      refine ⟨.string s, ?_, rfl⟩
      have hcs : (ρ i).off + j < c.size := by omega
      unfold putCells
      rw [Array.getElem?_mapIdx, Array.getElem?_eq_getElem hcs]
      simp only [Option.map_some]
      rw [if_pos (by simp; omega)]
      have e : (tt.map byt8).toArray[(ρ i).off + j - (ρ i).off]! = byt8 s := by
        rw [Nat.add_sub_cancel_left]
        simp [hs]
      rw [e]
      rfl) ((obj_ex hH hg (by simp)).to rfl fun _ => rfl)) rfl rfl rfl h3 (fun k hk => h2 k fun e => hk (by rw [e, hb])) (ShKeep.of_one q1 h1 h4 h2)
  exact hw.grow rfl rfl rfl (by simp [grow]) fun k hk => by
    unfold grow
    exact Array.getElem?_append_left hk
def srtB (ss : List ByteArray) : List ByteArray := ((ss.map byt8).mergeSort fun x y => decide (x ≤ y)).map fun l => ⟨⟨l⟩⟩
theorem srtB_len (ss : List ByteArray) : (srtB ss).length = ss.length := by unfold srtB; rw [List.length_map, List.length_mergeSort, List.length_map]
theorem srtB_byt (ss : List ByteArray) : (srtB ss).map byt8 = (ss.map byt8).mergeSort fun x y => decide (x ≤ y) := by
  unfold srtB
  rw [List.map_map]
  exact List.map_id _
theorem HRel.reput (hH : HRel F w0 ρ n H w) {i : Nat} {s : SO} (hg : H.get i = some s) (hw : s.wr = true) (hm : ∀ es, s.b ≠ .mp es) : HRel F w0 ρ n (H.put i s) w :=
  hH.write i s s hg hw (hH.lt i s hg).2 (hH.obj i s hg) rfl rfl rfl rfl (fun _ _ => rfl) (ShKeep.refl w)
theorem sl_args {l : Loc} {m : Nat} {y : Value} (h : slrel l 0 m 1 y) : m = 0 ∧ (∃ p c, y = .slice p 0 c) ∨ 0 < m ∧ ∃ b c, l.blk = some b ∧ m ≤ c ∧ l.has (0 + c * 1) ∧ y = .slice (some ⟨b, l.off, none⟩) m c := by
  unfold slrel at h
  split at h
  · obtain ⟨h0, hno⟩ := h
    obtain ⟨a, e⟩ := hno.form
    exact .inl ⟨h0, a, 0, e⟩
  · rename_i b hb
    obtain ⟨c, a, c1, c2, c3, rfl⟩ := h
    by_cases h0 : m = 0
    · subst h0; exact .inl ⟨rfl, _, _, rfl⟩
    · exact .inr ⟨by omega, b, c, hb, c1, c2, by rw [c3 (by omega)]; rfl⟩
theorem sort_S (L : SlLaysM.n6 P σ) {i m : Nat} {ss : List ByteArray} (hg : H.get i = some ⟨true, .strs ss⟩) (hm : m = ss.length) (hb : m ≤ 10000000) :
    SpecAt P (σ.f 6) [.sl i 0 m 1] H n (.tup []) (H.put i ⟨true, .strs (srtB ss)⟩) n := by
  intro F w0 w ρ xs hH hz hl
  match xs, hz with
  | [y], ⟨hy, _⟩ =>
    rcases sl_args (show slrel (ρ i) 0 m 1 y from hy) with ⟨h0, p, c, rfl⟩ | ⟨h0, b, c, hbk, hc, hhas, rfl⟩
    · have hss : ss = [] := List.eq_nil_of_length_eq_zero (by omega)
      refine (AnyM.slices_Sort_string_none L p c w).mono ?_
      rintro e w' ⟨rfl, rfl⟩
      refine ⟨_, ρ, rfl, ⟨[], rfl, trivial⟩, by simp [ltT, ltC], ?_, Ext.refl _ _, Nat.le_refl _⟩
      have e : srtB ss = ss := by subst hss; unfold srtB; simp
      rw [e]
      exact hH.reput hg rfl (by simp)
    · obtain ⟨hh, hbl⟩ := row_holds hH hg hbk
      have hs := AnyM.slices_Sort_string L b (ρ i).off c (ss.map byt8) w hh hbl (by simp; omega)
      rw [List.length_map, ← hm] at hs
      refine hs.mono ?_
      rintro e w' ⟨rfl, q, os, rfl⟩
      refine ⟨_, ρ, rfl, ⟨[], rfl, trivial⟩, by simp [ltT, ltC], ?_, Ext.refl _ _, Nat.le_refl _⟩
      rw [← srtB_byt]
      exact row_put hH hg (srtB_len ss) hbk q os
def cmpB (ss : List ByteArray) : List ByteArray := (Lib.compact (ss.map byt8)).map fun l => ⟨⟨l⟩⟩
def cmpR (ss : List ByteArray) : List ByteArray := cmpB ss ++ List.replicate (ss.length - (cmpB ss).length) .empty
theorem cmpB_byt (ss : List ByteArray) : (cmpB ss).map byt8 = Lib.compact (ss.map byt8) := by
  unfold cmpB
  rw [List.map_map]
  exact List.map_id _
theorem compact_S (L : SlLaysN.n44 P σ) {i m : Nat} {ss : List ByteArray} (hg : H.get i = some ⟨true, .strs ss⟩) (hm : m = ss.length) (hb : m ≤ 10000000) (hle : (cmpB ss).length ≤ ss.length) :
    SpecAt P (σ.f 44) [.sl i 0 m 1] H n (.sl i 0 (cmpB ss).length 1) (H.put i ⟨true, .strs (cmpR ss)⟩) n := by
  intro F w0 w ρ xs hH hz hl
  match xs, hz with
  | [y], ⟨hy, _⟩ =>
    have hlt : [SV.sl i 0 m 1].all (ltT n) = true := hl
    rcases sl_args (show slrel (ρ i) 0 m 1 y from hy) with ⟨h0, p, c, rfl⟩ | ⟨h0, b, c, hbk, hc, hhas, rfl⟩
    · have hss : ss = [] := List.eq_nil_of_length_eq_zero (by omega)
      refine (AnyG.slices_Compact_string_empty L p c w).mono ?_
      rintro e w' ⟨rfl, rfl⟩
      have e1 : (cmpB ss).length = m := by omega
      refine ⟨_, ρ, rfl, by rw [e1, h0]; rw [h0] at hy; exact hy, by rw [e1]; simpa using hlt, ?_, Ext.refl _ _, Nat.le_refl _⟩
      have e : cmpR ss = ss := by
        have : cmpB ss = [] := List.eq_nil_of_length_eq_zero (by omega)
        unfold cmpR; rw [this, hss]; rfl
      rw [e]
      exact hH.reput hg rfl (by simp)
    · obtain ⟨hh, hbl⟩ := row_holds hH hg hbk
      have hs := AnyG.slices_Compact_string L b (ρ i).off c (ss.map byt8) w hh (by simp; omega) (by simp; omega)
      rw [List.length_map, ← hm] at hs
      refine hs.mono ?_
      rintro e w' ⟨rfl, q, rfl⟩
      have el : (cmpB ss).length = (Lib.compact (ss.map byt8)).length := by rw [← cmpB_byt, List.length_map]
      refine ⟨_, ρ, rfl, ?_, by simpa [ltT, ltC, ltB, ltA] using hlt, ?_, Ext.refl _ _, Nat.le_refl _⟩
      · show slrel (ρ i) 0 (cmpB ss).length 1 _
        unfold slrel
        rw [hbk]
        exact ⟨c, (ρ i).off, by omega, hhas, fun _ => rfl, by rw [el]⟩
      · have e2 : (Lib.compact (ss.map byt8) ++ List.replicate (m - (Lib.compact (ss.map byt8)).length) []) = (cmpR ss).map byt8 := by
          unfold cmpR
          rw [List.map_append, cmpB_byt, List.map_replicate, hm, el]
          rfl
        rw [e2]
        have := row_put (tt := cmpR ss) hH hg (by unfold cmpR; rw [List.length_append, List.length_replicate]; omega) hbk q #[]
        rwa [grow_empty] at this
end Go.Sx

/- slices.Sort, slices.Compact at this program. -/
set_option linter.unusedVariables false
set_option linter.unusedSimpArgs false
set_option maxRecDepth 100000
namespace Go.Proofs
open Go.Shelf Go.RowKit Go.Sx
def laySo_ren : Go.Shelf.Ren := ⟨fun | 6 => 67 | 8 => 78 | 9 => 77 | 19 => 95 | 20 => 96 | 21 => 86 | 22 => 87 | 23 => 88 | 24 => 89 | 25 => 90 | 26 => 91 | 27 => 92 | 28 => 93 | 29 => 94 | 36 => 105 | 31 => 106 | 32 => 107 | 37 => 108 | 38 => 109 | 39 => 110 | 41 => 113 | n => n, fun | 27 => 22 | 29 => 9 | 3 => 3 | 32 => 86 | 26 => 22 | 0 => 0 | 44 => 109 | 46 => 84 | 4 => 4 | 36 => 123 | 35 => 122 | 41 => 128 | 5 => 5 | 9 => 9 | 53 => 143 | 57 => 147 | 63 => 151 | 64 => 152 | n => n, fun n => n⟩
theorem laySo : SlLaysM.n6 Tryz.prog laySo_ren where
  mixed := by kernel_rfl
  f6 := ⟨Tryz.f67.name, by kernel_rfl, Tryz.func67.trans (congrArg some (by kernel_rfl))⟩
  f8 := Tryz.func78.trans (congrArg some (by kernel_rfl))
  f9 := ⟨Tryz.f77.name, by kernel_rfl, Tryz.func77.trans (congrArg some (by kernel_rfl))⟩
  f19 := Tryz.func95.trans (congrArg some (by kernel_rfl))
  f20 := Tryz.func96.trans (congrArg some (by kernel_rfl))
  f21 := ⟨Tryz.f86.name, by kernel_rfl, Tryz.func86.trans (congrArg some (by kernel_rfl))⟩
  f22 := ⟨Tryz.f87.name, by kernel_rfl, Tryz.func87.trans (congrArg some (by kernel_rfl))⟩
  f23 := ⟨Tryz.f88.name, by kernel_rfl, Tryz.func88.trans (congrArg some (by kernel_rfl))⟩
  f24 := ⟨Tryz.f89.name, by kernel_rfl, Tryz.func89.trans (congrArg some (by kernel_rfl))⟩
  f25 := ⟨Tryz.f90.name, by kernel_rfl, Tryz.func90.trans (congrArg some (by kernel_rfl))⟩
  f26 := ⟨Tryz.f91.name, by kernel_rfl, Tryz.func91.trans (congrArg some (by kernel_rfl))⟩
  f27 := ⟨Tryz.f92.name, by kernel_rfl, Tryz.func92.trans (congrArg some (by kernel_rfl))⟩
  f28 := ⟨Tryz.f93.name, by kernel_rfl, Tryz.func93.trans (congrArg some (by kernel_rfl))⟩
  f29 := ⟨Tryz.f94.name, by kernel_rfl, Tryz.func94.trans (congrArg some (by kernel_rfl))⟩
  f31 := Tryz.func106.trans (congrArg some (by kernel_rfl))
  f32 := Tryz.func107.trans (congrArg some (by kernel_rfl))
  f36 := ⟨Tryz.f105.name, by kernel_rfl, Tryz.func105.trans (congrArg some (by kernel_rfl))⟩
  f37 := ⟨Tryz.f108.name, by kernel_rfl, Tryz.func108.trans (congrArg some (by kernel_rfl))⟩
  f38 := ⟨Tryz.f109.name, by kernel_rfl, Tryz.func109.trans (congrArg some (by kernel_rfl))⟩
  f39 := ⟨Tryz.f110.name, by kernel_rfl, Tryz.func110.trans (congrArg some (by kernel_rfl))⟩
  f41 := ⟨Tryz.f113.name, by kernel_rfl, Tryz.func113.trans (congrArg some (by kernel_rfl))⟩
  t0 := Tryz.underlying0
  a0 := Tryz.isAgg0
  z0 := Tryz.sizeOf0
  v0 := Tryz.zeroValue0
  t3 := Tryz.underlying3
  a3 := Tryz.isAgg3
  z3 := Tryz.sizeOf3
  v3 := Tryz.zeroValue3
  t4 := Tryz.underlying4
  a4 := Tryz.isAgg4
  z4 := Tryz.sizeOf4
  v4 := Tryz.zeroValue4
  t5 := Tryz.underlying5
  a5 := Tryz.isAgg5
  z5 := Tryz.sizeOf5
  v5 := Tryz.zeroValue5
  t9 := Tryz.underlying9
  a9 := Tryz.isAgg9
  z9 := Tryz.sizeOf9
  v9 := Tryz.zeroValue9
  t26 := Tryz.underlying22
  a26 := Tryz.isAgg22
  z26 := Tryz.sizeOf22
  v26 := Tryz.zeroValue22
  t27 := Tryz.underlying22
  a27 := Tryz.isAgg22
  z27 := Tryz.sizeOf22
  v27 := Tryz.zeroValue22
  t29 := Tryz.underlying9
  a29 := Tryz.isAgg9
  z29 := Tryz.sizeOf9
  v29 := Tryz.zeroValue9
  t32 := Tryz.underlying86
  a32 := Tryz.isAgg86
  z32 := Tryz.sizeOf86
  v32 := Tryz.zeroValue86
  t35 := Tryz.underlying122
  a35 := Tryz.isAgg122
  z35 := Tryz.sizeOf122
  v35 := Tryz.zeroValue122
  t36 := Tryz.underlying123
  a36 := Tryz.isAgg123
  z36 := Tryz.sizeOf123
  v36 := Tryz.zeroValue123
  t41 := Tryz.underlying128
  a41 := Tryz.isAgg128
  z41 := Tryz.sizeOf128
  v41 := Tryz.zeroValue128
  t44 := Tryz.underlying109
  a44 := Tryz.isAgg109
  z44 := Tryz.sizeOf109
  v44 := Tryz.zeroValue109
  t46 := Tryz.underlying84
  a46 := Tryz.isAgg84
  z46 := Tryz.sizeOf84
  v46 := Tryz.zeroValue84
  t53 := Tryz.underlying143
  a53 := Tryz.isAgg143
  z53 := Tryz.sizeOf143
  v53 := Tryz.zeroValue143
  t57 := Tryz.underlying147
  a57 := Tryz.isAgg147
  z57 := Tryz.sizeOf147
  v57 := Tryz.zeroValue147
  t63 := Tryz.underlying151
  a63 := Tryz.isAgg151
  z63 := Tryz.sizeOf151
  v63 := Tryz.zeroValue151
  t64 := Tryz.underlying152
  a64 := Tryz.isAgg152
  z64 := Tryz.sizeOf152
  v64 := Tryz.zeroValue152
def layCm_ren : Go.Shelf.Ren := ⟨fun | 44 => 55 | n => n, fun | 25 => 22 | 26 => 9 | 3 => 3 | 4 => 4 | 0 => 0 | n => n, fun n => n⟩
theorem layCm : SlLaysN.n44 Tryz.prog layCm_ren where
  mixed := by kernel_rfl
  f44 := ⟨Tryz.f55.name, by kernel_rfl, Tryz.func55.trans (congrArg some (by kernel_rfl))⟩
  t0 := Tryz.underlying0
  a0 := Tryz.isAgg0
  z0 := Tryz.sizeOf0
  v0 := Tryz.zeroValue0
  t3 := Tryz.underlying3
  a3 := Tryz.isAgg3
  z3 := Tryz.sizeOf3
  v3 := Tryz.zeroValue3
  t4 := Tryz.underlying4
  a4 := Tryz.isAgg4
  z4 := Tryz.sizeOf4
  v4 := Tryz.zeroValue4
  t25 := Tryz.underlying22
  a25 := Tryz.isAgg22
  z25 := Tryz.sizeOf22
  v25 := Tryz.zeroValue22
  t26 := Tryz.underlying9
  a26 := Tryz.isAgg9
  z26 := Tryz.sizeOf9
  v26 := Tryz.zeroValue9
  i26 := by kernel_rfl
variable {H : Hp} {n : Nat}
theorem sortT {i m : Nat} {ss : List ByteArray} (hg : H.get i = some ⟨true, .strs ss⟩) (hm : m = ss.length) (hb : m ≤ 10000000) :
    SpecAt Tryz.prog 67 [.sl i 0 m 1] H n (.tup []) (H.put i ⟨true, .strs (srtB ss)⟩) n := sort_S laySo hg hm hb
theorem compactT {i m : Nat} {ss : List ByteArray} (hg : H.get i = some ⟨true, .strs ss⟩) (hm : m = ss.length) (hb : m ≤ 10000000) (hle : (cmpB ss).length ≤ ss.length) :
    SpecAt Tryz.prog 55 [.sl i 0 m 1] H n (.sl i 0 (cmpB ss).length 1) (H.put i ⟨true, .strs (cmpR ss)⟩) n := compact_S layCm hg hm hb hle
end Go.Proofs
