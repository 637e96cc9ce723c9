/- strings.Builder, wherever it lies: copyCheck, String. -/
import Derived.Test.YtcgglehgpmehcaaSxC
import Derived.Shelf.Strings.BuilderF
import Derived.Test.YtcgglehgpmehcaaChecked
import Derived.Test.YtcgglehgpmehcaaSlotA

set_option linter.unusedVariables false
set_option linter.unusedSimpArgs false
namespace Go.Proofs
open Go.Shelf Go.RowKit
variable {P : Program} {ρ : Ren}

set_option maxHeartbeats 1000000 in
set_option maxRecDepth 100000 in
theorem ck_used (L : Lays.n240 P ρ) (X : Builder.X72 P ρ) (b o : Nat) (w : World) (h0 : w.cell? ⟨b, o, none⟩ = some (.pointer (some ⟨b, o, none⟩))) :
    Calls P (ρ.f 240) #[.pointer (some ⟨b, o, none⟩)] w fun e w' => e = .returned (.tuple #[]) ∧ w' = w := by
  obtain ⟨j, hj, _⟩ := Option.map_eq_some_iff.1 X.sizeBuilder
  have mixed := L.mixed
  have t72 := L.t72; have a72 := L.a72; have z72 := L.z72; have v72 := L.v72; have u72 := run_underlying L.t72
  have t70 := L.t70; have a70 := L.a70; have z70 := L.z70; have v70 := L.v70; have u70 := run_underlying L.t70
  have t9 := L.t9; have a9 := L.a9; have z9 := L.z9; have v9 := L.v9; have u9 := run_underlying L.t9
  have t4 := L.t4; have a4 := L.a4; have z4 := L.z4; have v4 := L.v4; have u4 := run_underlying L.t4
  have t164 := L.t164; have a164 := L.a164; have z164 := L.z164; have v164 := L.v164; have u164 := run_underlying L.t164
  go_enter L.f240, Body.n240_ntmps ρ
  go_wp2
  rw [Lib.run_neq_ptr_same w _ L.t70 hj]
  go_wp2
  go_end0
  exact ⟨rfl, rfl⟩

set_option maxHeartbeats 1000000 in
set_option maxRecDepth 100000 in
theorem ck_fresh (L : Lays.n240 P ρ) (X : Builder.X72 P ρ) (b o T c : Nat) (w : World) (h0 : w.cell? ⟨b, o, none⟩ = some (.pointer none)) (hsh : w.shape? b = some (T, c)) (hoc : o < c) (hlies : liesAt P P.depth T (c / P.cellsOf T) o (ρ.t 72) 1 = true) (hfz : w.frozen? ⟨b, o, none⟩ = false) :
    Calls P (ρ.f 240) #[.pointer (some ⟨b, o, none⟩)] w fun e w' => e = .returned (.tuple #[]) ∧ w' = w.setCell ⟨b, o, none⟩ (.pointer (some ⟨b, o, none⟩)) := by
  obtain ⟨j, hj, hjs⟩ := Option.map_eq_some_iff.1 X.sizeBuilder
  have mixed := L.mixed
  have t72 := L.t72; have a72 := L.a72; have z72 := L.z72; have v72 := L.v72; have u72 := run_underlying L.t72
  have t70 := L.t70; have a70 := L.a70; have z70 := L.z70; have v70 := L.v70; have u70 := run_underlying L.t70
  have t9 := L.t9; have a9 := L.a9; have z9 := L.z9; have v9 := L.v9; have u9 := run_underlying L.t9
  have t4 := L.t4; have a4 := L.a4; have z4 := L.z4; have v4 := L.v4; have u4 := run_underlying L.t4
  have t164 := L.t164; have a164 := L.a164; have z164 := L.z164; have v164 := L.v164; have u164 := run_underlying L.t164
  go_enter L.f240, Body.n240_ntmps ρ
  go_wp2
  rw [Lib.run_to_unsafe w ⟨b, o, none⟩ L.t70 L.t164 hj (by rw [hjs]; decide) hsh hoc]
  simp only [Result.andThen]
  rw [Oper.upon_value]
  go_wp2
  rw [run_callFunc_extern L.f276 (by kernel_rfl) (by kernel_rfl) (by kernel_rfl) (e := Extern.AbiNoEscape.same) (by kernel_rfl)]
  rw [Lib.run_noEscape]
  simp only [Result.andThen]
  rw [Oper.upon_value]
  go_wp2
  rw [Lib.run_from_unsafe w ⟨b, o, none⟩ L.t164 L.t70 hj hsh hlies]
  simp only [Result.andThen]
  rw [Oper.upon_value]
  go_wp2
  go_end0
  exact ⟨rfl, rfl⟩

set_option maxHeartbeats 1000000 in
set_option maxRecDepth 100000 in
theorem str_some (L : Lays.n169 P ρ) (X : Builder.Extra P ρ) (b o g cap c : Nat) (l : List UInt8) (w : World) (h0 : l ≠ []) (k1 : w.cell? ⟨b, o + 1, none⟩ = some (.slice (some ⟨g, 0, none⟩) l.length cap)) (hcap : l.length ≤ cap) (hsh : w.shape? g = some (ρ.t 5, c)) (hlc : l.length ≤ c) (h63 : l.length ≤ 9223372036854775807)
    (hcell : ∀ j x, l[j]? = some x → w.cell? ((⟨g, 0, none⟩ : Addr).add j) = some (.int .u8 x.toNat)) :
    Calls P (ρ.f 169) #[.pointer (some ⟨b, o, none⟩)] w fun e w' => e = .returned (.string ⟨l.toArray⟩) ∧ w' = w.drew.freeze ⟨g, 0, none⟩ l.length := by
  have hl0 : l.length ≠ 0 := by simpa using h0
  have c1 : w.drew.cell? ⟨b, o + 1, none⟩ = some (.slice (some ⟨g, 0, none⟩) l.length cap) := k1
  have hSD : (Builtin.unsafeSliceData_ #[(ρ.t 37)] (ρ.t 127) #[.slice (some ⟨g, 0, none⟩) l.length cap]).run P w.drew = .ok (.pointer (some ⟨g, 0, none⟩)) w.drew :=
    Lib.run_unsafeSliceData_row _ _ _ _ _ _ (by omega)
  have hUS : (Builtin.unsafeString_ #[(ρ.t 127), (ρ.t 3)] (ρ.t 9) #[.pointer (some ⟨g, 0, none⟩), .int .i64 l.length]).run P w.drew = .ok (.string ⟨l.toArray⟩) (w.drew.freeze ⟨g, 0, none⟩ l.length) :=
    Lib.run_unsafeString_row w.drew (ρ.t 127) (ρ.t 3) (ρ.t 9) (ρ.t 5) L.t127 X.cellsByte g c hsh l h0 hlc h63 hcell
  have mixed := L.mixed
  have t72 := L.t72; have a72 := L.a72; have z72 := L.z72; have v72 := L.v72; have u72 := run_underlying L.t72
  have t70 := L.t70; have a70 := L.a70; have z70 := L.z70; have v70 := L.v70; have u70 := run_underlying L.t70
  have t37 := L.t37; have a37 := L.a37; have z37 := L.z37; have v37 := L.v37; have u37 := run_underlying L.t37
  have t127 := L.t127; have a127 := L.a127; have z127 := L.z127; have v127 := L.v127; have u127 := run_underlying L.t127
  have t3 := L.t3; have a3 := L.a3; have z3 := L.z3; have v3 := L.v3; have u3 := run_underlying L.t3
  have t9 := L.t9; have a9 := L.a9; have z9 := L.z9; have v9 := L.v9; have u9 := run_underlying L.t9
  have t5 := X.t5; have a5 := X.a5; have z5 := X.z5; have v5 := X.v5; have u5 := run_underlying X.t5
  go_enter L.f169, Body.n169_ntmps ρ
  go_wp2
  go_region_o
  all_goals (go_wp2; go_ret; exact ⟨rfl, rfl⟩)

end Go.Proofs

/- strings.Builder in the symbolic heap. -/
set_option linter.unusedVariables false
set_option linter.unusedSimpArgs false
namespace Go.Sx
open Go.Shelf Go.RowKit Go.Proofs
variable {P : Program} {σ : Ren} {H : Hp} {n : Nat}

theorem ck_fresh_S (L : Lays.n240 P σ) (X : Builder.X72 P σ) {i j o T c : Nat} {cs cs' : List SV} {s : SO} (hg : H.get i = some ⟨true, .sv cs⟩) (hc : cs[o]? = some (.v (.pointer none))) (hj : H.get j = some s) (hs : s.b = .mp (.shp i T (some c)))
    (hoc : o < c) (hlies : liesAt P P.depth T (c / P.cellsOf T) o (σ.t 72) 1 = true) (hcs : splice cs o [.ptr i o] = cs') :
    SpecAt P (σ.f 240) [.ptr i o] H n (.tup []) (H.put i ⟨true, .sv cs'⟩) n := by
  intro F w0 w ρ xs hH hz hl
  match xs, hz with
  | [x], ⟨⟨b, hb, hx⟩, _⟩ =>
    have hgh := hH.obj j s hj
    unfold ObjOK at hgh
    rw [hs] at hgh
    obtain ⟨h0, k, hk, hck⟩ := hgh.2 (by rw [hb]; simp)
    obtain rfl := hck c rfl
    obtain ⟨ca, fr, e1, e2⟩ := hH.shp i T c b hk hb
    rw [h0, Nat.zero_add] at hx
    subst hx
    have hr := obj_row hH hg (by simp)
    have hr' := hr
    simp only [RowOK, hb] at hr'
    obtain ⟨ca', T', fr', q1, q2, q3, q4, q5⟩ := hr'
    rw [e1] at q1; cases q1
    have holt : o < cs.length := (List.getElem?_eq_some_iff.1 hc).1
    obtain ⟨y, y1, y2⟩ := q4 o _ hc
    rw [h0, Nat.zero_add] at y1
    have y2 : y = .pointer none := y2
    subst y2
    have hfz : w.frozen? ⟨b, o, none⟩ = false := by
      have := q5 trivial o (by have : cs.length ≤ (ρ i).size := q3; omega)
      rw [h0, Nat.zero_add] at this
      simp only [World.frozen?, e1]
      simp; omega
    refine (ck_fresh L X b o T c w (by rw [cell_of e1, y1]) (by simp [World.shape?, e1, e2]) hoc hlies hfz).mono ?_
    rintro e w' ⟨rfl, rfl⟩
    have hidi := (hH.lt i _ hg).1
    have hz1 : All2 (crel ρ) [SV.ptr i o] [Value.pointer (some ⟨b, o, none⟩)] := ⟨⟨b, hb, by rw [h0, Nat.zero_add]⟩, trivial⟩
    obtain ⟨c2, T2, fr2, p1, p2, p3, p4⟩ := row_write hr hb o _ _ hz1 (by simp [Body.cells]; omega)
    rw [e1] at p1; cases p1
    rw [h0, Nat.zero_add] at p4
    rw [setCell_wset e1]
    refine ⟨_, ρ, rfl, ⟨[], rfl, trivial⟩, rfl, ?_, Ext.refl _ _, Nat.le_refl _⟩
    refine hH.write i _ ⟨true, .sv cs'⟩ hg rfl ?_ ?_ rfl rfl rfl (by simp [wset]) (fun q hq => wset_heap_ne _ _ _ _ (fun e => hq (by rw [hb, e]))) (wset_keep e1 (by simp))
    · have hlt := (hH.lt i _ hg).2
      simp only [Body.lt, List.all_eq_true] at hlt ⊢
      intro v hv
      rw [← hcs] at hv
      rcases mem_splice hv with h | h
      · exact hlt v h
      · rw [List.mem_singleton.1 h]; exact hidi
    · refine ObjOK.mk (by simp) ?_ ((obj_ex hH hg (by simp)).to rfl (fun _ => rfl))
      show RowOK _ _ _ true (Body.sv cs').cells
      rw [← hcs]; exact p4
theorem ck_used_S (L : Lays.n240 P σ) (X : Builder.X72 P σ) {i o : Nat} {cs : List SV} {s : SO} (hg : H.get i = some s) (hb' : s.b = .sv cs) (hc : cs[o]? = some (.ptr i o)) :
    SpecAt P (σ.f 240) [.ptr i o] H n (.tup []) H n := by
  intro F w0 w ρ xs hH hz hl
  match xs, hz with
  | [x], ⟨⟨b, hb, hx⟩, _⟩ =>
    subst hx
    have hr := obj_row hH hg (by rw [hb']; simp)
    rw [hb'] at hr
    simp only [RowOK, hb] at hr
    obtain ⟨ca', T', fr', q1, q2, q3, q4, q5⟩ := hr
    obtain ⟨y, y1, y2⟩ := q4 o _ hc
    obtain ⟨b2, hb2, y3⟩ := (y2 : arel ρ (.ptr i o) y)
    rw [hb] at hb2; cases hb2
    subst y3
    refine (ck_used L X b ((ρ i).off + o) w (by rw [cell_of q1, y1])).mono ?_
    rintro e w' ⟨rfl, rfl⟩
    exact ⟨_, ρ, rfl, ⟨[], rfl, trivial⟩, rfl, hH, Ext.refl _ _, Nat.le_refl _⟩
theorem str_some_S (L : Lays.n169 P σ) (X : Builder.Extra P σ) {i o r k q : Nat} {cs : List SV} {s t : SO} {bs : List Int} (hg : H.get i = some s) (hb' : s.b = .sv cs) (hc : cs[o + 1]? = some (.sl r 0 k 1)) (hr : H.get r = some ⟨true, .ints .u8 bs⟩)
    (hk : k = bs.length) (hk0 : k ≠ 0) (hk1 : k ≤ 9223372036854775807) (hq : H.get q = some t) (ht : t.b = .mp (.shp r (σ.t 5) none)) (hby : ∀ y ∈ bs, 0 ≤ y ∧ y ≤ 255) :
    SpecAt P (σ.f 169) [.ptr i o] H n (.v (.string (tx bs))) (H.put r ⟨false, .ints .u8 bs⟩) n := by
  intro F w0 w ρ xs hH hz hl
  match xs, hz with
  | [x], ⟨⟨b, hb, hx⟩, _⟩ =>
    subst hx
    have hri := obj_row hH hg (by rw [hb']; simp)
    rw [hb'] at hri
    simp only [RowOK, hb] at hri
    obtain ⟨ca', T', fr', q1, q2, q3, q4, q5⟩ := hri
    obtain ⟨y, y1, y2⟩ := q4 (o + 1) _ hc
    have y2 : slrel (ρ r) 0 k 1 y := y2
    cases hbr : (ρ r).blk with
    | none => simp only [slrel, hbr] at y2; exact absurd y2.1 hk0
    | some g =>
      simp only [slrel, hbr] at y2
      obtain ⟨cap, a, z1, z2, z3, z4⟩ := y2
      have hgh := hH.obj q t hq
      unfold ObjOK at hgh
      rw [ht] at hgh
      obtain ⟨h0, c, hsh, _⟩ := hgh.2 (by rw [hbr]; simp)
      have ha := z3 (by omega)
      rw [h0] at ha
      subst ha
      subst z4
      obtain ⟨ca, fr, e1, e2⟩ := hH.shp r _ c g hsh hbr
      have hrr := obj_row hH hr (by simp)
      have hrr' := hrr
      simp only [RowOK, hbr] at hrr
      obtain ⟨ca2, T2, fr2, p1, p2, p3, p4, p5⟩ := hrr
      rw [e1] at p1; cases p1
      have hl1 : (tx bs).data.toList.length = bs.length := by
        have := tx_sz bs
        exact this
      have hcell : ∀ j x, (tx bs).data.toList[j]? = some x → w.cell? ((⟨g, 0, none⟩ : Addr).add j) = some (.int .u8 x.toNat) := by
        intro j x hx
        have hj : j < bs.length := by rw [← hl1]; exact (List.getElem?_eq_some_iff.1 hx).1
        have hx2 : x = UInt8.ofNat (bs[j]).toNat := by
          simp [tx, hj] at hx
          exact hx.symm
        obtain ⟨v, v1, v2⟩ := p4 j (.v (.int .u8 bs[j])) (by simp [Body.cells, hj])
        have v2 : v = .int .u8 bs[j] := v2
        rw [h0, Nat.zero_add] at v1
        have hb2 := hby bs[j] (List.getElem_mem hj)
        rw [add_plain, Nat.zero_add, cell_of e1, v1, v2, hx2]
        congr 2
        have : (UInt8.ofNat (bs[j]).toNat).toNat = (bs[j]).toNat := by
          rw [UInt8.toNat_ofNat']; omega
        omega
      have hbl : bs.length ≤ ca.size := by
        have h1 : bs.length ≤ (ρ r).size := by simpa [Body.cells] using p3
        omega
      have hrun := str_some L X b ((ρ i).off + o) g cap c (tx bs).data.toList w (fun e => by rw [e] at hl1; simp at hl1; omega) (by rw [cell_of q1, Nat.add_assoc, y1, hl1, hk]) (by omega) (by simp [World.shape?, e1, e2]) (by omega) (by omega) hcell
      refine hrun.mono ?_
      rintro e w' ⟨rfl, rfl⟩
      refine ⟨_, ρ, rfl, rfl, rfl, ?_, Ext.refl _ _, Nat.le_refl _⟩
      have hD := hH.drew
      obtain ⟨fr3, hnew⟩ : ∃ fr3, (w.drew.freeze ⟨g, 0, none⟩ (tx bs).data.toList.length).heap[g]? = some (.cells ca (σ.t 5) fr3) := by
        unfold World.freeze
        rw [if_neg (by omega)]
        have e1' : w.drew.heap[g]? = some (.cells ca (σ.t 5) fr) := e1
        obtain ⟨lo, hi⟩ := fr
        exact ⟨_, by rw [Array.getElem?_modify, if_pos rfl, e1']; rfl⟩
      have hoth : ∀ m, m ≠ g → (w.drew.freeze ⟨g, 0, none⟩ (tx bs).data.toList.length).heap[m]? = w.drew.heap[m]? := by
        intro m hm
        unfold World.freeze
        rw [if_neg (by omega)]
        show (w.drew.heap.modify g _)[m]? = _
        rw [Array.getElem?_modify, if_neg (Ne.symm hm)]
      refine hD.write r _ ⟨false, .ints .u8 bs⟩ hr rfl rfl ?_ ?_ ?_ ?_ ?_ (fun m hm => hoth m (fun e => hm (by rw [hbr, e]))) (ShKeep.of_one (b := g) (c := ca) (c' := ca) (T := σ.t 5) (fr := fr) (fr' := fr3) e1 hnew rfl hoth)
      · refine ObjOK.mk (by simp) ?_ ((obj_ex hH hr (by simp)).to rfl (fun h => by cases h))
        simp only [RowOK, hbr]
        exact ⟨ca, _, fr3, hnew, p2, p3, p4, fun h => by cases h⟩
      all_goals (unfold World.freeze; rw [if_neg (by omega)])
      simp
end Go.Sx

/- strings.Builder at this program. -/
set_option linter.unusedVariables false
set_option linter.unusedSimpArgs false
set_option maxRecDepth 100000
namespace Go.Proofs
open Go.Shelf Go.RowKit Go.Sx
def layCk_ren : Go.Shelf.Ren := ⟨fun | 240 => 61 | 276 => 70 | n => n, fun | 0 => 0 | 4 => 4 | 9 => 9 | 20 => 20 | 70 => 97 | 72 => 99 | 164 => 129 | 5 => 5 | 37 => 42 | n => n, fun n => n⟩
theorem layCk : Lays.n240 Try.prog layCk_ren where
  mixed := by kernel_rfl
  f240 := Try.func61.trans (congrArg some (by kernel_rfl))
  f276 := Try.func70.trans (congrArg some (by kernel_rfl))
  t0 := Try.underlying0
  a0 := Try.isAgg0
  z0 := Try.sizeOf0
  v0 := Try.zeroValue0
  t4 := Try.underlying4
  a4 := Try.isAgg4
  z4 := Try.sizeOf4
  v4 := Try.zeroValue4
  t9 := Try.underlying9
  a9 := Try.isAgg9
  z9 := Try.sizeOf9
  v9 := Try.zeroValue9
  t20 := Try.underlying20
  a20 := Try.isAgg20
  z20 := Try.sizeOf20
  v20 := Try.zeroValue20
  t70 := Try.underlying97
  a70 := Try.isAgg97
  z70 := Try.sizeOf97
  v70 := Try.zeroValue97
  t72 := Try.underlying99
  a72 := Try.isAgg99
  z72 := Try.sizeOf99
  v72 := Try.zeroValue99
  t164 := Try.underlying129
  a164 := Try.isAgg129
  z164 := Try.sizeOf129
  v164 := Try.zeroValue129
theorem layCk_extra : Builder.X72 Try.prog layCk_ren where
  sizeBuilder := by kernel_rfl
  liesBuilder := by kernel_rfl

def layStr_ren : Go.Shelf.Ren := ⟨fun | 169 => 48 | n => n, fun | 70 => 97 | 9 => 9 | 0 => 0 | 72 => 99 | 37 => 42 | 127 => 116 | 3 => 3 | 5 => 5 | n => n, fun n => n⟩
theorem layStr : Lays.n169 Try.prog layStr_ren where
  mixed := by kernel_rfl
  f169 := Try.func48.trans (congrArg some (by kernel_rfl))
  t0 := Try.underlying0
  a0 := Try.isAgg0
  z0 := Try.sizeOf0
  v0 := Try.zeroValue0
  t3 := Try.underlying3
  a3 := Try.isAgg3
  z3 := Try.sizeOf3
  v3 := Try.zeroValue3
  t9 := Try.underlying9
  a9 := Try.isAgg9
  z9 := Try.sizeOf9
  v9 := Try.zeroValue9
  t37 := Try.underlying42
  a37 := Try.isAgg42
  z37 := Try.sizeOf42
  v37 := Try.zeroValue42
  t70 := Try.underlying97
  a70 := Try.isAgg97
  z70 := Try.sizeOf97
  v70 := Try.zeroValue97
  t72 := Try.underlying99
  a72 := Try.isAgg99
  z72 := Try.sizeOf99
  v72 := Try.zeroValue99
  t127 := Try.underlying116
  a127 := Try.isAgg116
  z127 := Try.sizeOf116
  v127 := Try.zeroValue116

theorem layStr_extra : Builder.Extra Try.prog layStr_ren where
  sizeBuilder := by kernel_rfl
  liesBuilder := by kernel_rfl
  t5 := Try.underlying5
  a5 := Try.isAgg5
  z5 := Try.sizeOf5
  v5 := Try.zeroValue5
  infoByte := by kernel_rfl
  cellsByte := by kernel_rfl
  sizeByte := by kernel_rfl
  neB5 := by decide
theorem ckF {i j : Nat} {H : Hp} {n : Nat} {s : SO} {v : SV} (hg : H.get i = some ⟨true, .sv [.v (.pointer none), v]⟩) (hj : H.get j = some s) (hs : s.b = .mp (.shp i 99 (some 2))) :
    SpecAt Try.prog 61 [.ptr i 0] H n (.tup []) (H.put i ⟨true, .sv [.ptr i 0, v]⟩) n :=
  ck_fresh_S layCk layCk_extra (o := 0) hg rfl hj hs (by decide) layCk_extra.liesBuilder rfl
theorem ckU {i : Nat} {H : Hp} {n : Nat} {s : SO} {v : SV} (hg : H.get i = some s) (hs : s.b = .sv [.ptr i 0, v]) :
    SpecAt Try.prog 61 [.ptr i 0] H n (.tup []) H n :=
  ck_used_S layCk layCk_extra (o := 0) hg hs rfl
theorem strS {i r k q : Nat} {H : Hp} {n : Nat} {s t : SO} {v : SV} {bs : List Int} (hg : H.get i = some s) (hb : s.b = .sv [v, .sl r 0 k 1]) (hr : H.get r = some ⟨true, .ints .u8 bs⟩) (hk : k = bs.length) (hk0 : k ≠ 0) (hk1 : k ≤ 9223372036854775807)
    (hq : H.get q = some t) (ht : t.b = .mp (.shp r 5 none)) (hby : ∀ y ∈ bs, 0 ≤ y ∧ y ≤ 255) : SpecAt Try.prog 48 [.ptr i 0] H n (.v (.string (tx bs))) (H.put r ⟨false, .ints .u8 bs⟩) n :=
  str_some_S layStr layStr_extra (o := 0) hg hb rfl hr hk hk0 hk1 hq ht hby
end Go.Proofs

/- Slots: strings.Builder's WriteString; Read. -/
set_option linter.unusedVariables false
set_option linter.unusedSimpArgs false
set_option maxRecDepth 100000
namespace Go.Sx
attribute [local go_sem ↓] bind_mk intsB_mk strsB_mk svB_mk fnVC ob_some vc_skip vc_exit vc_ret vc_seq vc_block kSeq_normal kSeq_exit kSeq_ret kBlock_normal kBlock_exit kBlock_ret vc_reg vc_regD vc_cond condK_true condK_false vc_loop kLoop_exit kLoop_ret kRoll_normal kRoll_exit kRoll_ret vcOps_nil vcOps_cons gd_bool gd_undef put_some put_none vcT_fin vcT_pure vcT_act vcT_acts vcT_stop stab_none stab_some stabM_nil stabM_cons stabO_ld stabO_ldn stabO_slP stabO_b2s fldOf_ai fldOf_agg fldOf_ait fldOf_aggt intsOf_nil intsOf_cons strsOf_nil strsOf_cons c_omap ob_if lk_nil lk_cons ev_t ev_k z_mov z_pick z_bin z_binB z_binP z_un z_r2s z_conv z_s2b z_b2s z_allocT aggOf_mk z_boxT z_alloc z_bld z_bldI z_rowI z_rowS z_ld z_ldn z_st z_stn asN_ptr asN_fn z_nilck z_fld z_fadr z_idxA z_idxP z_idxS z_idxV z_slS z_slL z_slP z_mk z_lenS z_lenL z_app appC_ints appC_pl appC_sv appC_strs isS_strs loose_ints loose_pl loose_sv z_slM z_callv callvK_fn callvK_f callvK_yl vc_rangeF rfEnd_eq rfGo_none rfGo_ret rfGo_exit yGo_mk yEnd_n yEnd_r yEnd_e yRdy_mk yMid_n putPs_nil putPs_cons leaf_v leaf_ptr leaf_sl leaf_yl leaf_mp z_appS z_appST z_appZ z_cpyS z_mkfn reps_int reps_str z_rowV z_slnil nilK_zero z_cpy z_call asT_tup z_extT z_box boxOf_ai boxOf_agg boxOf_int boxOf_str boxOf_bool boxOf_ptr boxOf_sl sbin_int sbin_str sbinB_mk sbinP_nn sbinP_pn sbinP_np i_add i_sub i_mul i_quo i_rem i_and i_or i_xor i_andNot i_shl i_shr i_eql i_neq i_lss i_leq i_gtr i_geq st_add st_eql st_neq st_lss st_leq st_gtr st_geq bo_eql bo_neq pt_eql pt_neq un_neg un_xor un_not asI_mk asB_mk asS_mk asP_mk asSl_mk asBy_mk bnd_none bnd_some get_mk hput_mk hdel_mk kill_eq wrOf_eq rowOf_eq rsvs_0 rsvs_1 rsvs_2 rsvs_3 rsv_t rsv_c1 rsv_cn nt_v nt_ptr nt_sl nt_agg nt_ai get_ints get_strs get_pl get_sv getN_ints getN_sv set_ints set_strs set_sv setN_ints setN_sv part_ints part_strs part_sv cat_ints cat_strs cat_sv over_ints over_strs over_sv ones_ints ones_strs evs_nil evs_cons condK_eqt condK_eqf det_callP V_ns V_nn V_gs V_gn obC_mk fresh_ev freshT_ev freshR_ev setN_plagg setN_intsv setN_svai setN_svagg over_intsv set_pl setN_pl setN_plai getN_pl getN_strs part_pl cat_pl over_pl over_plints z_mm
attribute [local go_sem] initTm ne_eq not_true_eq_false not_false_eq_true true_and and_true List.length_cons List.length_nil Int.toNat_natCast Nat.add_zero Nat.zero_add Nat.mul_one List.getElem?_cons_zero List.drop_zero List.take_length List.take_succ_cons List.take_zero List.take_nil List.drop_succ_cons Option.map_some Nat.le_refl implies_true List.getElem?_cons_succ decide_true decide_false Bool.not_true Bool.not_false beq_self_eq_true Nat.succ_ne_self Nat.one_ne_zero Nat.zero_ne_one vk_mk hk_mk nk_mk tok_eq plsOf_map intsOf_map bodyOf_pl bodyOf_ints bodyOf_strs bodyOf_sv part_aggv part_agg part_ai part_int part_str part_bool part_sl part_ptr part_nil numsOf_map u_int u_str u_bool u_pnil u_sl u_ptr u_oci u_ocs evq_nil evq_cons fillS_nil fillS_cons u_ocb ones_pl cells_sv cells_ints cells_strs cells_pl smms_nil smms_cons smm_min smm_max plsOf_nil List.nil_append List.all_cons List.all_nil Bool.and_self Bool.true_and Bool.and_true zws_len zw_len zi_len List.set_cons_zero List.set_cons_succ List.flatMap_cons List.flatMap_nil List.append_nil
section
open Go.Proofs
variable {H : Hp} {n : Nat} {x : Nat → Option SO} {d d' : Fd} {i a b c : Nat} {u1 u2 u3 : Bool}

def secT (d : Fd) (k : Int) : ByteArray := tx (d.seen.getD k.toNat [])
def imgT (at_ : Int) (d : Fd) : Nat → ByteArray
  | 0 => ⟨#[]⟩
  | k + 1 => imgT at_ d k ++ secT d (at_ + 1 + k)
def imgOf (at_ : Int) (d : Fd) (z : Nat) : ByteArray := (imgT at_ d ((z + 63) / 64)).extract 0 z
def srV (img : Nat → ByteArray) (r : Nat) (hs : ByteArray) (v z v2 : Nat) : Nat × ByteArray × Int :=
  if v = 0 ∨ v ≠ v2 ∨ z = 0 ∨ 8192 < z ∨ r * 64 < z then (0, ⟨#[]⟩, 5) else if sha (bts (img z)) ≠ hs then (0, ⟨#[]⟩, 10) else (v, img z, 0)
def srT (bs r : Nat) (slot : Int) (d : Fd) : Nat × ByteArray × Int :=
  if slOK slot = false then (0, ⟨#[]⟩, 1) else if d.off then (0, ⟨#[]⟩, 7) else
    srV (imgOf (atV bs r slot) d) r ((secT d (atV bs r slot)).extract 5 37) (num ((secT d (atV bs r slot)).extract 0 1)) (num ((secT d (atV bs r slot)).extract 1 5)) (num ((secT d (atV bs r slot)).extract 37 38))
def rV (p : Nat × ByteArray × Int) : SV := .tup [.v (.int .i64 p.1), .v (.string p.2.1), .v (.int .i64 p.2.2)]
theorem rdS' {k : Int} {u1 u2 u3 u4 : Bool} (hi : H.get i = some ⟨u1, devB d a b c⟩) (ha : H.get a = some ⟨u2, secB d.seen⟩) (hb : H.get b = some ⟨u3, secB d.safe⟩) (hc : H.get c = some ⟨u4, .pl (prow d.pend)⟩) (ne : 0 < i ∧ 0 < a ∧ 0 < b ∧ 0 < c) (hd : d.ok) : SpecAt Try.prog nFRead [.ptr i 0, .v (.int .i64 k)] H n (rdV d k) H n := by
  obtain ⟨p1, p2, p3, p4⟩ := ne
  have := lift (n := n) (ok3.pure tFRead (wF14 (x := H.x) (k := k) hd)) [(1, i), (2, a), (3, b), (4, c)] rfl rfl rfl (by omega) rfl rfl
    ⟨sub_ro rfl p1 hi rfl, sub_ro rfl p2 ha rfl, sub_ro rfl p3 hb rfl, sub_ro rfl p4 hc rfl, trivial⟩ (by simp [apartB, apart1, rn, lk]) (by simp [wrNZ, rn, lk]; try omega) (by omega)
  have hv : ∀ π, (rdV d k).ren π = rdV d k := fun π => by unfold rdV; split <;> (try split) <;> rfl
  rw [hv] at this
  exact this
def srH (d : Fd) (bs r : Nat) (x : Nat → Option SO) : Hp := ⟨[(1, some ⟨false, slB 2 bs r⟩), (2, some ⟨false, devB d 3 4 5⟩), (3, some ⟨false, secB d.seen⟩), (4, some ⟨false, secB d.safe⟩), (5, some ⟨false, .pl (prow d.pend)⟩)], x⟩
theorem secT_size {k : Int} (hd : d.ok) (h0 : 0 ≤ k) (h1 : k < d.seen.length) : (secT d k).size = 64 := by
  unfold secT
  rw [tx_sz]
  exact getD_len hd.seen (by omega)
theorem rdV_at {k : Int} (ho : d.off = false) (h0 : 0 ≤ k) (h1 : k < d.seen.length) : rdV d k = .tup [.v (.string (secT d k)), .v (.int .i64 0)] := by
  unfold rdV; rw [ho, if_neg Bool.false_ne_true, if_neg (by omega)]; rfl
theorem num_lt' {t : ByteArray} (h : t.size ≤ 7) : num t < 72057594037927936 := by
  have := nvl_bound (l := nbs t) nbs_lt (j := (nbs t).length) (Nat.le_refl _)
  rw [List.take_length, nbs_len] at this
  refine Nat.lt_of_lt_of_le this (Nat.le_trans (Nat.pow_le_pow_right (by decide) h) (by decide))
theorem bts_app {a b : ByteArray} : bts (a ++ b) = bts a ++ bts b := by simp [bts]
theorem bts_bytes {a : ByteArray} : ∀ y ∈ bts a, 0 ≤ y ∧ y ≤ 255 := by
  intro y hy
  unfold bts at hy
  obtain ⟨b, _, rfl⟩ := List.mem_map.1 hy
  have := b.toNat_lt
  exact ⟨by omega, by omega⟩
theorem ba_nil {a : ByteArray} : (⟨#[]⟩ : ByteArray) ++ a = a := by apply ByteArray.ext; simp
theorem imgT_size {at_ : Int} (hd : d.ok) (h0 : 0 ≤ at_) : ∀ {j : Nat}, at_ + 1 + j ≤ d.seen.length → (imgT at_ d j).size = 64 * j
  | 0, _ => rfl
  | j + 1, h => by
    show (imgT at_ d j ++ secT d (at_ + 1 + j)).size = _
    rw [ByteArray.size_append, imgT_size hd h0 (by omega), secT_size hd (by omega) (by omega)]
    omega
theorem loopU_fam {C : Tab} {base : Nat} {α : Type} (p : α → Prop) (I : α → St) (μ : α → Nat) (a0 : α) {b : MC} {s : St} {K : Ex → St → Prop} (h0 : p a0) (hs : Sub base (I a0) s)
    (hr : ∀ a, p a → vc C base b (I a) (kLoop base p I μ a K)) : LoopU base (vc C base b) 0 s K := by
  refine ⟨{a // p a}, fun a => I a.1, fun a => μ a.1, ⟨⟨a0, h0⟩, hs⟩, fun a => ?_⟩
  have := hr a.1 a.2
  refine vc_mono (fun e s' h => ?_) this
  cases e with
  | normal =>
    obtain ⟨a', h1, h2, h3⟩ := h
    exact ⟨⟨a', h1⟩, h3, h2⟩
  | exit j => exact h
  | ret => exact h
theorem sreadW {bs r : Nat} {slot : Int} (hb : bs ≤ 4096) (hr : r ≤ 128) (hd : d.ok) (hl : bs + 2 * (1 + r) ≤ d.seen.length) :
    fnVC CT mSRead [.ptr 1 0, .v (.int .i64 slot)] (srH d bs r x) 6 fun v H' n' => Sub 6 ⟨[(0, rV (srT bs r slot d))], ⟨[], x⟩, 6⟩ ⟨[(0, v)], H', n'⟩ := by
  unfold mSRead srH devB slB
  simp -implicitDefEqProofs only [↓fnVC, initTm]
  simp -implicitDefEqProofs only [go_sem, ↓reduceIte, Nat.reduceEqDiff, Nat.reduceAdd, Nat.reduceMul, Nat.reduceLT, Nat.reduceLeDiff, Nat.reduceSub, Int.reduceToNat, Int.reduceLE, Int.reduceLT, reduceCtorEq, Int.reduceEq, Int.reduceGT, Int.reduceGE, Int.reduceNeg]
  refine at_call tSAt (satS (i := 1) (D := 2) (bs := bs) (r := r) (by rfl) hb hr) ?_
  unfold srT
  by_cases h0 : slOK slot = false
  · rw [if_pos h0]
    simp -implicitDefEqProofs only [go_sem, ↓reduceIte, Nat.reduceEqDiff, Nat.reduceAdd, Nat.reduceMul, Nat.reduceLT, Nat.reduceLeDiff, Nat.reduceSub, Int.reduceToNat, Int.reduceLE, Int.reduceLT, reduceCtorEq, Int.reduceEq, Int.reduceGT, Int.reduceGE, Int.reduceNeg, h0, List.isEmpty_cons, Bool.false_eq_true, if_false]
    refine sub_mk [] rfl rfl rfl ?_
    simp only [tmSub, hpSub, objSub, eqTm, eqHp, rn, lk, SV.ren, SV.renC, SV.renB, SV.renA, ren_ints, ren_strs, ren_pl, ren_svs, SV.v.injEq, Value.int.injEq, Body.ints.injEq, SV.ptr.injEq, SV.sl.injEq, Value.string.injEq, Value.bool.injEq, List.map_cons, List.map_nil, forall_const, Nat.reduceLT, Nat.lt_add_one, imp_self, true_and, and_true, and_self, ob_some, get_mk, lk_cons, ↓reduceIte, Nat.reduceEqDiff, ne_eq, not_true_eq_false, not_false_eq_true, Nat.one_ne_zero, Nat.zero_ne_one, Nat.succ_ne_self, Nat.reduceAdd, Bool.false_eq_true, false_implies, implies_true, reduceCtorEq, rV]
    rfl
  rw [if_neg h0]
  have b0 : slOK slot = true := by simpa using h0
  have hat : 0 ≤ atV bs r slot ∧ atV bs r slot + 1 + r ≤ d.seen.length := by
    unfold atV
    rcases of_decide_eq_true b0 with rfl | rfl
    · rw [if_neg (by decide), if_pos rfl]; omega
    · rw [if_pos rfl]; omega
  generalize atV bs r slot = at_ at hat ⊢
  simp -implicitDefEqProofs only [go_sem, ↓reduceIte, Nat.reduceEqDiff, Nat.reduceAdd, Nat.reduceMul, Nat.reduceLT, Nat.reduceLeDiff, Nat.reduceSub, Int.reduceToNat, Int.reduceLE, Int.reduceLT, reduceCtorEq, Int.reduceEq, Int.reduceGT, Int.reduceGE, Int.reduceNeg, b0, List.isEmpty_cons, Bool.false_eq_true, if_false]
  refine at_call tFRead (rdS' (i := 2) (a := 3) (b := 4) (c := 5) (d := d) (by rfl) (by rfl) (by rfl) (by rfl) (by decide) hd) ?_
  by_cases ho : d.off = true
  · have e1 : rdV d at_ = .tup [.v (.string ⟨#[]⟩), .v (.int .i64 7)] := if_pos ho
    rw [if_pos ho, e1]
    simp -implicitDefEqProofs only [go_sem, ↓reduceIte, Nat.reduceEqDiff, Nat.reduceAdd, Nat.reduceMul, Nat.reduceLT, Nat.reduceLeDiff, Nat.reduceSub, Int.reduceToNat, Int.reduceLE, Int.reduceLT, reduceCtorEq, Int.reduceEq, Int.reduceGT, Int.reduceGE, Int.reduceNeg, List.isEmpty_cons, Bool.false_eq_true, if_false]
    refine sub_mk [] rfl rfl rfl ?_
    simp only [tmSub, hpSub, objSub, eqTm, eqHp, rn, lk, SV.ren, SV.renC, SV.renB, SV.renA, ren_ints, ren_strs, ren_pl, ren_svs, SV.v.injEq, Value.int.injEq, Body.ints.injEq, SV.ptr.injEq, SV.sl.injEq, Value.string.injEq, Value.bool.injEq, List.map_cons, List.map_nil, forall_const, Nat.reduceLT, Nat.lt_add_one, imp_self, true_and, and_true, and_self, ob_some, get_mk, lk_cons, ↓reduceIte, Nat.reduceEqDiff, ne_eq, not_true_eq_false, not_false_eq_true, Nat.one_ne_zero, Nat.zero_ne_one, Nat.succ_ne_self, Nat.reduceAdd, Bool.false_eq_true, false_implies, implies_true, reduceCtorEq, rV]
    rfl
  rw [if_neg ho, rdV_at (by simpa using ho) hat.1 (by omega)]
  have hsz : (secT d at_).size = 64 := secT_size hd hat.1 (by omega)
  generalize hh : secT d at_ = h at hsz
  simp -implicitDefEqProofs only [go_sem, ↓reduceIte, Nat.reduceEqDiff, Nat.reduceAdd, Nat.reduceMul, Nat.reduceLT, Nat.reduceLeDiff, Nat.reduceSub, Int.reduceToNat, Int.reduceLE, Int.reduceLT, reduceCtorEq, Int.reduceEq, Int.reduceGT, Int.reduceGE, Int.reduceNeg, List.isEmpty_cons, Bool.false_eq_true, if_false]
  refine at_call tPRead (preadS (s := h) (by decide)) ?_
  simp -implicitDefEqProofs only [go_sem, ↓reduceIte, Nat.reduceEqDiff, Nat.reduceAdd, Nat.reduceMul, Nat.reduceLT, Nat.reduceLeDiff, Nat.reduceSub, Int.reduceToNat, Int.reduceLE, Int.reduceLT, reduceCtorEq, Int.reduceEq, Int.reduceGT, Int.reduceGE, Int.reduceNeg, List.isEmpty_cons, Bool.false_eq_true, if_false]
  have f1 := rd_at (s := h) (k := 0) (w := 1) (by omega)
  have f2 := rd_at (s := h) (k := 1) (w := 4) (by omega)
  have f3 := rd_at (s := h) (k := 5) (w := 32) (by omega)
  have f4 := rd_at (s := h) (k := 37) (w := 1) (by omega)
  rw [ext_all] at f1
  have ok : ∀ {s e k}, k ≤ 7 → numOK (rawT s e k) := fun hk => .inl (Nat.le_trans rawT_size hk)
  refine in_call mixT tRByte ?_
  unfold mRByte
  simp -implicitDefEqProofs only [↓fnVC, initTm]
  simp -implicitDefEqProofs only [go_sem, ↓reduceIte, Nat.reduceEqDiff, Nat.reduceAdd, Nat.reduceMul, Nat.reduceLT, Nat.reduceLeDiff, Nat.reduceSub, Int.reduceToNat, Int.reduceLE, Int.reduceLT, reduceCtorEq, Int.reduceEq, Int.reduceGT, Int.reduceGE, Int.reduceNeg]
  refine at_call tRNumber (numSp (i := 6) (s := h) (e := 0) (k := 1) (by rfl) (by decide) (by decide) (ok (by decide))) ?_
  rw [f1.1, f1.2.1, f1.2.2]
  simp -implicitDefEqProofs only [go_sem, ↓reduceIte, Nat.reduceEqDiff, Nat.reduceAdd, Nat.reduceMul, Nat.reduceLT, Nat.reduceLeDiff, Nat.reduceSub, Int.reduceToNat, Int.reduceLE, Int.reduceLT, reduceCtorEq, Int.reduceEq, Int.reduceGT, Int.reduceGE, Int.reduceNeg]
  refine in_call mixT tRFour ?_
  unfold mRFour
  simp -implicitDefEqProofs only [↓fnVC, initTm]
  simp -implicitDefEqProofs only [go_sem, ↓reduceIte, Nat.reduceEqDiff, Nat.reduceAdd, Nat.reduceMul, Nat.reduceLT, Nat.reduceLeDiff, Nat.reduceSub, Int.reduceToNat, Int.reduceLE, Int.reduceLT, reduceCtorEq, Int.reduceEq, Int.reduceGT, Int.reduceGE, Int.reduceNeg]
  refine at_call tRNumber (numSp (i := 6) (s := h.extract 1 h.size) (e := 0) (k := 4) (by rfl) (by decide) (by decide) (ok (by decide))) ?_
  rw [f2.1, f2.2.1, f2.2.2]
  simp -implicitDefEqProofs only [go_sem, ↓reduceIte, Nat.reduceEqDiff, Nat.reduceAdd, Nat.reduceMul, Nat.reduceLT, Nat.reduceLeDiff, Nat.reduceSub, Int.reduceToNat, Int.reduceLE, Int.reduceLT, reduceCtorEq, Int.reduceEq, Int.reduceGT, Int.reduceGE, Int.reduceNeg]
  refine at_call tRHash (hashSp (i := 6) (s := h.extract 5 h.size) (e := 0) (by rfl) (by decide)) ?_
  rw [f3.1, f3.2.1, f3.2.2]
  simp -implicitDefEqProofs only [go_sem, ↓reduceIte, Nat.reduceEqDiff, Nat.reduceAdd, Nat.reduceMul, Nat.reduceLT, Nat.reduceLeDiff, Nat.reduceSub, Int.reduceToNat, Int.reduceLE, Int.reduceLT, reduceCtorEq, Int.reduceEq, Int.reduceGT, Int.reduceGE, Int.reduceNeg]
  refine in_call mixT tRByte ?_
  unfold mRByte
  simp -implicitDefEqProofs only [↓fnVC, initTm]
  simp -implicitDefEqProofs only [go_sem, ↓reduceIte, Nat.reduceEqDiff, Nat.reduceAdd, Nat.reduceMul, Nat.reduceLT, Nat.reduceLeDiff, Nat.reduceSub, Int.reduceToNat, Int.reduceLE, Int.reduceLT, reduceCtorEq, Int.reduceEq, Int.reduceGT, Int.reduceGE, Int.reduceNeg]
  refine at_call tRNumber (numSp (i := 6) (s := h.extract 37 h.size) (e := 0) (k := 1) (by rfl) (by decide) (by decide) (ok (by decide))) ?_
  rw [f4.1, f4.2.1, f4.2.2]
  have k1 : num (h.extract 0 1) < 72057594037927936 := num_lt' (by rw [ByteArray.size_extract]; omega)
  have k2 : num (h.extract 1 5) < 72057594037927936 := num_lt' (by rw [ByteArray.size_extract]; omega)
  have k3 : num (h.extract 37 38) < 72057594037927936 := num_lt' (by rw [ByteArray.size_extract]; omega)
  generalize num (h.extract 0 1) = v1 at k1 ⊢
  generalize num (h.extract 1 (1 + 4)) = z at k2 ⊢
  generalize num (h.extract 37 (37 + 1)) = v2 at k3 ⊢
  have e3 : h.extract 5 (5 + 32) = h.extract 5 37 := rfl
  unfold srV
  rw [e3]
  by_cases c1 : v1 = 0
  · have a1 : decide ((v1 : Int) = 0) = true := decide_eq_true (by omega)
    rw [if_pos (.inl c1)]
    simp -implicitDefEqProofs only [go_sem, ↓reduceIte, Nat.reduceEqDiff, Nat.reduceAdd, Nat.reduceMul, Nat.reduceLT, Nat.reduceLeDiff, Nat.reduceSub, Int.reduceToNat, Int.reduceLE, Int.reduceLT, reduceCtorEq, Int.reduceEq, Int.reduceGT, Int.reduceGE, Int.reduceNeg, a1, List.isEmpty_cons, Bool.false_eq_true, if_false]
    refine sub_mk [] rfl rfl rfl ?_
    simp only [tmSub, hpSub, objSub, eqTm, eqHp, rn, lk, SV.ren, SV.renC, SV.renB, SV.renA, ren_ints, ren_strs, ren_pl, ren_svs, SV.v.injEq, Value.int.injEq, Body.ints.injEq, SV.ptr.injEq, SV.sl.injEq, Value.string.injEq, Value.bool.injEq, List.map_cons, List.map_nil, forall_const, Nat.reduceLT, Nat.lt_add_one, imp_self, true_and, and_true, and_self, ob_some, get_mk, lk_cons, ↓reduceIte, Nat.reduceEqDiff, ne_eq, not_true_eq_false, not_false_eq_true, Nat.one_ne_zero, Nat.zero_ne_one, Nat.succ_ne_self, Nat.reduceAdd, Bool.false_eq_true, false_implies, implies_true, reduceCtorEq, rV]
    rfl
  have a1 : decide ((v1 : Int) = 0) = false := decide_eq_false (by omega)
  by_cases c2 : v1 ≠ v2
  · have a2 : decide ((v1 : Int) = v2) = false := decide_eq_false (by omega)
    rw [if_pos (.inr (.inl c2))]
    simp -implicitDefEqProofs only [go_sem, ↓reduceIte, Nat.reduceEqDiff, Nat.reduceAdd, Nat.reduceMul, Nat.reduceLT, Nat.reduceLeDiff, Nat.reduceSub, Int.reduceToNat, Int.reduceLE, Int.reduceLT, reduceCtorEq, Int.reduceEq, Int.reduceGT, Int.reduceGE, Int.reduceNeg, a1, a2, List.isEmpty_cons, Bool.false_eq_true, if_false]
    refine sub_mk [] rfl rfl rfl ?_
    simp only [tmSub, hpSub, objSub, eqTm, eqHp, rn, lk, SV.ren, SV.renC, SV.renB, SV.renA, ren_ints, ren_strs, ren_pl, ren_svs, SV.v.injEq, Value.int.injEq, Body.ints.injEq, SV.ptr.injEq, SV.sl.injEq, Value.string.injEq, Value.bool.injEq, List.map_cons, List.map_nil, forall_const, Nat.reduceLT, Nat.lt_add_one, imp_self, true_and, and_true, and_self, ob_some, get_mk, lk_cons, ↓reduceIte, Nat.reduceEqDiff, ne_eq, not_true_eq_false, not_false_eq_true, Nat.one_ne_zero, Nat.zero_ne_one, Nat.succ_ne_self, Nat.reduceAdd, Bool.false_eq_true, false_implies, implies_true, reduceCtorEq, rV]
    rfl
  have a2 : decide ((v1 : Int) = v2) = true := decide_eq_true (by omega)
  by_cases c3 : z = 0
  · have a3 : decide ((z : Int) = 0) = true := decide_eq_true (by omega)
    rw [if_pos (.inr (.inr (.inl c3)))]
    simp -implicitDefEqProofs only [go_sem, ↓reduceIte, Nat.reduceEqDiff, Nat.reduceAdd, Nat.reduceMul, Nat.reduceLT, Nat.reduceLeDiff, Nat.reduceSub, Int.reduceToNat, Int.reduceLE, Int.reduceLT, reduceCtorEq, Int.reduceEq, Int.reduceGT, Int.reduceGE, Int.reduceNeg, a1, a2, a3, List.isEmpty_cons, Bool.false_eq_true, if_false]
    refine sub_mk [] rfl rfl rfl ?_
    simp only [tmSub, hpSub, objSub, eqTm, eqHp, rn, lk, SV.ren, SV.renC, SV.renB, SV.renA, ren_ints, ren_strs, ren_pl, ren_svs, SV.v.injEq, Value.int.injEq, Body.ints.injEq, SV.ptr.injEq, SV.sl.injEq, Value.string.injEq, Value.bool.injEq, List.map_cons, List.map_nil, forall_const, Nat.reduceLT, Nat.lt_add_one, imp_self, true_and, and_true, and_self, ob_some, get_mk, lk_cons, ↓reduceIte, Nat.reduceEqDiff, ne_eq, not_true_eq_false, not_false_eq_true, Nat.one_ne_zero, Nat.zero_ne_one, Nat.succ_ne_self, Nat.reduceAdd, Bool.false_eq_true, false_implies, implies_true, reduceCtorEq, rV]
    rfl
  have a3 : decide ((z : Int) = 0) = false := decide_eq_false (by omega)
  simp -implicitDefEqProofs only [go_sem, ↓reduceIte, Nat.reduceEqDiff, Nat.reduceAdd, Nat.reduceMul, Nat.reduceLT, Nat.reduceLeDiff, Nat.reduceSub, Int.reduceToNat, Int.reduceLE, Int.reduceLT, reduceCtorEq, Int.reduceEq, Int.reduceGT, Int.reduceGE, Int.reduceNeg, a1, a2, a3, List.isEmpty_cons, Bool.false_eq_true, if_false]
  refine at_call tSFits (fitsS (i := 1) (D := 2) (bs := bs) (r := r) (by rfl) hr) ?_
  by_cases c4 : 8192 < z ∨ r * 64 < z
  · have a4 : fitB r (z : Int) = false := decide_eq_false (by omega)
    rw [if_pos (.inr (.inr (.inr c4)))]
    simp -implicitDefEqProofs only [go_sem, ↓reduceIte, Nat.reduceEqDiff, Nat.reduceAdd, Nat.reduceMul, Nat.reduceLT, Nat.reduceLeDiff, Nat.reduceSub, Int.reduceToNat, Int.reduceLE, Int.reduceLT, reduceCtorEq, Int.reduceEq, Int.reduceGT, Int.reduceGE, Int.reduceNeg, a4, List.isEmpty_cons, Bool.false_eq_true, if_false]
    refine sub_mk [] rfl rfl rfl ?_
    simp only [tmSub, hpSub, objSub, eqTm, eqHp, rn, lk, SV.ren, SV.renC, SV.renB, SV.renA, ren_ints, ren_strs, ren_pl, ren_svs, SV.v.injEq, Value.int.injEq, Body.ints.injEq, SV.ptr.injEq, SV.sl.injEq, Value.string.injEq, Value.bool.injEq, List.map_cons, List.map_nil, forall_const, Nat.reduceLT, Nat.lt_add_one, imp_self, true_and, and_true, and_self, ob_some, get_mk, lk_cons, ↓reduceIte, Nat.reduceEqDiff, ne_eq, not_true_eq_false, not_false_eq_true, Nat.one_ne_zero, Nat.zero_ne_one, Nat.succ_ne_self, Nat.reduceAdd, Bool.false_eq_true, false_implies, implies_true, reduceCtorEq, rV]
    rfl
  have a4 : fitB r (z : Int) = true := decide_eq_true (by omega)
  rw [if_neg (by omega)]
  simp -implicitDefEqProofs only [go_sem, ↓reduceIte, Nat.reduceEqDiff, Nat.reduceAdd, Nat.reduceMul, Nat.reduceLT, Nat.reduceLeDiff, Nat.reduceSub, Int.reduceToNat, Int.reduceLE, Int.reduceLT, reduceCtorEq, Int.reduceEq, Int.reduceGT, Int.reduceGE, Int.reduceNeg, a4, List.isEmpty_cons, Bool.false_eq_true, if_false]
  have hmost := hd.most
  have w5 : IntKind.i64.wrap (at_ + 1) = at_ + 1 := wrap_i64 (by omega) (by omega)
  have w6 : IntKind.i64.wrap (at_ + 1 + 0) = at_ + 1 + (0 : Nat) := wrap_i64 (by omega) (by omega)
  have w7 : IntKind.i64.wrap (0 * 64) = 0 := rfl
  have a5 : decide (0 < (z : Int)) = true := decide_eq_true (by omega)
  refine loop_roll 1 ?_
  rw [LoopU_succ]
  simp -implicitDefEqProofs only [go_sem, ↓reduceIte, Nat.reduceEqDiff, Nat.reduceAdd, Nat.reduceMul, Nat.reduceLT, Nat.reduceLeDiff, Nat.reduceSub, Int.reduceToNat, Int.reduceLE, Int.reduceLT, reduceCtorEq, Int.reduceEq, Int.reduceGT, Int.reduceGE, Int.reduceNeg, w7, a5, w5, w6]
  refine at_call tFRead (rdS' (i := 2) (a := 3) (b := 4) (c := 5) (d := d) (by rfl) (by rfl) (by rfl) (by rfl) (by decide) hd) ?_
  rw [rdV_at (k := at_ + 1 + (0 : Nat)) (by simpa using ho) (by omega) (by omega)]
  have s0 : (secT d (at_ + 1 + (0 : Nat))).size = 64 := secT_size hd (by omega) (by omega)
  simp -implicitDefEqProofs only [go_sem, ↓reduceIte, Nat.reduceEqDiff, Nat.reduceAdd, Nat.reduceMul, Nat.reduceLT, Nat.reduceLeDiff, Nat.reduceSub, Int.reduceToNat, Int.reduceLE, Int.reduceLT, reduceCtorEq, Int.reduceEq, Int.reduceGT, Int.reduceGE, Int.reduceNeg, s0]
  refine in_call mixT tBWriteString ?_
  unfold mBWriteString
  simp -implicitDefEqProofs only [↓fnVC, initTm]
  simp -implicitDefEqProofs only [go_sem, ↓reduceIte, Nat.reduceEqDiff, Nat.reduceAdd, Nat.reduceMul, Nat.reduceLT, Nat.reduceLeDiff, Nat.reduceSub, Int.reduceToNat, Int.reduceLE, Int.reduceLT, reduceCtorEq, Int.reduceEq, Int.reduceGT, Int.reduceGE, Int.reduceNeg]
  refine at_ext (enters_mk Try.func61 rfl rfl) (ckF (i := 7) (j := 8) (by rfl) (by rfl) rfl) ?_
  simp -implicitDefEqProofs only [go_sem, ↓reduceIte, Nat.reduceEqDiff, Nat.reduceAdd, Nat.reduceMul, Nat.reduceLT, Nat.reduceLeDiff, Nat.reduceSub, Int.reduceToNat, Int.reduceLE, Int.reduceLT, reduceCtorEq, Int.reduceEq, Int.reduceGT, Int.reduceGE, Int.reduceNeg, s0]
  refine ⟨fun h => absurd rfl h, ?_⟩
  have hz : z ≤ 8192 := by omega
  have hR : (z + 63) / 64 ≤ r := by omega
  refine loopU_fam (fun (j : Nat) => 1 ≤ j ∧ j ≤ (z + 63) / 64)
    (fun j => ⟨[(0, .ptr 1 0), (7, .v (.int .i64 at_)), (11, .v (.int .i64 v1)), (12, .v (.int .i64 z)), (13, .v (.string (h.extract 5 37))), (15, .ptr 7 0), (16, .v (.int .i64 j))], ⟨[(1, some ⟨false, slB 2 bs r⟩), (2, some ⟨false, devB d 3 4 5⟩), (3, some ⟨false, secB d.seen⟩), (4, some ⟨false, secB d.safe⟩), (5, some ⟨false, .pl (prow d.pend)⟩), (7, some ⟨true, .sv [.ptr 7 0, .sl 9 0 (imgT at_ d j).size 1]⟩), (9, some ⟨true, .ints .u8 (bts (imgT at_ d j))⟩), (10, some ⟨false, .mp (.shp 9 5 none)⟩)], x⟩, 11⟩)
    (fun j => (z + 63) / 64 - j) 1 ⟨Nat.le_refl _, by omega⟩ ?_ ?_
  · refine sub_mk [] rfl rfl rfl ?_
    simp only [tmSub, hpSub, objSub, eqTm, eqHp, rn, lk, SV.ren, SV.renC, SV.renB, SV.renA, ren_ints, ren_strs, ren_pl, ren_svs, SV.v.injEq, Value.int.injEq, Body.ints.injEq, SV.ptr.injEq, SV.sl.injEq, Value.string.injEq, Value.bool.injEq, List.map_cons, List.map_nil, forall_const, Nat.reduceLT, Nat.lt_add_one, imp_self, true_and, and_true, and_self, ob_some, get_mk, lk_cons, ↓reduceIte, Nat.reduceEqDiff, ne_eq, not_true_eq_false, not_false_eq_true, Nat.one_ne_zero, Nat.zero_ne_one, Nat.succ_ne_self, Nat.reduceAdd, Bool.false_eq_true, false_implies, implies_true, reduceCtorEq, slB, devB]
    have g1 : imgT at_ d 1 = secT d (at_ + 1 + (0 : Nat)) := by show (⟨#[]⟩ : ByteArray) ++ _ = _; exact ba_nil
    rw [g1, s0]
    exact ⟨rfl, rfl, rfl, rfl, rfl, rfl⟩
  · intro j hj
    have w1 : IntKind.i64.wrap ((j : Int) * 64) = ((64 * j : Nat) : Int) := by rw [wrap_i64 (by omega) (by omega)]; omega
    unfold devB slB
    simp -implicitDefEqProofs only [go_sem, ↓reduceIte, Nat.reduceEqDiff, Nat.reduceAdd, Nat.reduceMul, Nat.reduceLT, Nat.reduceLeDiff, Nat.reduceSub, Int.reduceToNat, Int.reduceLE, Int.reduceLT, reduceCtorEq, Int.reduceEq, Int.reduceGT, Int.reduceGE, Int.reduceNeg, w1]
    refine condK_bb (fun c => ?_) (fun c => ?_)
    · have c1 : 64 * j < z := by have := of_decide_eq_true c; omega
      have w2 : IntKind.i64.wrap ((j : Int) + 1) = ((j + 1 : Nat) : Int) := by rw [wrap_i64 (by omega) (by omega)]; omega
      have w3 : IntKind.i64.wrap (at_ + 1 + (j : Int)) = at_ + 1 + j := wrap_i64 (by omega) (by omega)
      simp -implicitDefEqProofs only [go_sem, ↓reduceIte, Nat.reduceEqDiff, Nat.reduceAdd, Nat.reduceMul, Nat.reduceLT, Nat.reduceLeDiff, Nat.reduceSub, Int.reduceToNat, Int.reduceLE, Int.reduceLT, reduceCtorEq, Int.reduceEq, Int.reduceGT, Int.reduceGE, Int.reduceNeg, w1, w2, w3, w5, c]
      refine at_call tFRead (rdS' (i := 2) (a := 3) (b := 4) (c := 5) (d := d) (by rfl) (by rfl) (by rfl) (by rfl) (by decide) hd) ?_
      rw [rdV_at (k := at_ + 1 + (j : Nat)) (by simpa using ho) (by omega) (by omega)]
      have s0 : (secT d (at_ + 1 + (j : Nat))).size = 64 := secT_size hd (by omega) (by omega)
      simp -implicitDefEqProofs only [go_sem, ↓reduceIte, Nat.reduceEqDiff, Nat.reduceAdd, Nat.reduceMul, Nat.reduceLT, Nat.reduceLeDiff, Nat.reduceSub, Int.reduceToNat, Int.reduceLE, Int.reduceLT, reduceCtorEq, Int.reduceEq, Int.reduceGT, Int.reduceGE, Int.reduceNeg]
      refine in_call mixT tBWriteString ?_
      unfold mBWriteString
      simp -implicitDefEqProofs only [↓fnVC, initTm]
      simp -implicitDefEqProofs only [go_sem, ↓reduceIte, Nat.reduceEqDiff, Nat.reduceAdd, Nat.reduceMul, Nat.reduceLT, Nat.reduceLeDiff, Nat.reduceSub, Int.reduceToNat, Int.reduceLE, Int.reduceLT, reduceCtorEq, Int.reduceEq, Int.reduceGT, Int.reduceGE, Int.reduceNeg]
      refine at_ext (enters_mk Try.func61 rfl rfl) (ckU (i := 7) (by rfl) rfl) ?_
      simp -implicitDefEqProofs only [go_sem, ↓reduceIte, Nat.reduceEqDiff, Nat.reduceAdd, Nat.reduceMul, Nat.reduceLT, Nat.reduceLeDiff, Nat.reduceSub, Int.reduceToNat, Int.reduceLE, Int.reduceLT, reduceCtorEq, Int.reduceEq, Int.reduceGT, Int.reduceGE, Int.reduceNeg]
      have sj : (imgT at_ d j).size = 64 * j := imgT_size hd hat.1 (by omega)
      refine ⟨by omega, fun _ => ⟨rfl, 10, ⟨false, .mp (.shp 9 5 none)⟩, rfl, rfl⟩, by rw [bts_len]; exact Nat.le_refl _, ?_⟩
      refine kLoop_mk (j + 1) (by omega) (by omega) ?_
      refine sub_mk [(9, 11), (10, 12)] rfl rfl rfl ?_
      simp only [tmSub, hpSub, objSub, eqTm, eqHp, rn, lk, SV.ren, SV.renC, SV.renB, SV.renA, ren_ints, ren_strs, ren_pl, ren_svs, SV.v.injEq, Value.int.injEq, Body.ints.injEq, SV.ptr.injEq, SV.sl.injEq, Value.string.injEq, Value.bool.injEq, List.map_cons, List.map_nil, forall_const, Nat.reduceLT, Nat.lt_add_one, imp_self, true_and, and_true, and_self, ob_some, get_mk, lk_cons, ↓reduceIte, Nat.reduceEqDiff, ne_eq, not_true_eq_false, not_false_eq_true, Nat.one_ne_zero, Nat.zero_ne_one, Nat.succ_ne_self, Nat.reduceAdd, Bool.false_eq_true, false_implies, implies_true, reduceCtorEq, slB, devB]
      rw [show imgT at_ d (j + 1) = imgT at_ d j ++ secT d (at_ + 1 + j) from rfl, ByteArray.size_append, bts_app, List.take_of_length_le (by rw [bts_len]; exact Nat.le_refl _)]
      exact ⟨w2, rfl, rfl, rfl, rfl, rfl⟩
    · have c1 : j = (z + 63) / 64 := by have := of_decide_eq_false c; omega
      subst c1
      have sj : (imgT at_ d ((z + 63) / 64)).size = 64 * ((z + 63) / 64) := imgT_size hd hat.1 (by omega)
      simp -implicitDefEqProofs only [go_sem, ↓reduceIte, Nat.reduceEqDiff, Nat.reduceAdd, Nat.reduceMul, Nat.reduceLT, Nat.reduceLeDiff, Nat.reduceSub, Int.reduceToNat, Int.reduceLE, Int.reduceLT, reduceCtorEq, Int.reduceEq, Int.reduceGT, Int.reduceGE, Int.reduceNeg, c, w1]
      refine at_ext (enters_mk Try.func48 rfl rfl) (strS (i := 7) (r := 9) (q := 10) (k := (imgT at_ d ((z + 63) / 64)).size) (bs := bts (imgT at_ d ((z + 63) / 64))) (by rfl) rfl (by rfl) (by rw [bts_len]) (by omega) (by omega) (by rfl) rfl bts_bytes) ?_
      rw [tx_bts]
      simp -implicitDefEqProofs only [go_sem, ↓reduceIte, Nat.reduceEqDiff, Nat.reduceAdd, Nat.reduceMul, Nat.reduceLT, Nat.reduceLeDiff, Nat.reduceSub, Int.reduceToNat, Int.reduceLE, Int.reduceLT, reduceCtorEq, Int.reduceEq, Int.reduceGT, Int.reduceGE, Int.reduceNeg]
      refine ⟨⟨by omega, by omega⟩, ?_⟩
      have e9 : (imgT at_ d ((z + 63) / 64)).extract 0 z = imgOf at_ d z := rfl
      rw [e9]
      have e8 : (imgOf at_ d z).size ≤ 8192 := by unfold imgOf; rw [ByteArray.size_extract]; omega
      refine at_call t9 (sum1S (s := imgOf at_ d z) (by rfl) (by omega)) ?_
      by_cases c5 : sha (bts (imgOf at_ d z)) = h.extract 5 37
      · have a5 : seq (sha (bts (imgOf at_ d z))) (h.extract 5 37) = true := by rw [c5]; exact seq_self _
        rw [if_neg (fun h => h c5)]
        simp -implicitDefEqProofs only [go_sem, ↓reduceIte, Nat.reduceEqDiff, Nat.reduceAdd, Nat.reduceMul, Nat.reduceLT, Nat.reduceLeDiff, Nat.reduceSub, Int.reduceToNat, Int.reduceLE, Int.reduceLT, reduceCtorEq, Int.reduceEq, Int.reduceGT, Int.reduceGE, Int.reduceNeg, a5]
        refine sub_mk [] rfl rfl rfl ?_
        simp only [tmSub, hpSub, objSub, eqTm, eqHp, rn, lk, SV.ren, SV.renC, SV.renB, SV.renA, ren_ints, ren_strs, ren_pl, ren_svs, SV.v.injEq, Value.int.injEq, Body.ints.injEq, SV.ptr.injEq, SV.sl.injEq, Value.string.injEq, Value.bool.injEq, List.map_cons, List.map_nil, forall_const, Nat.reduceLT, Nat.lt_add_one, imp_self, true_and, and_true, and_self, ob_some, get_mk, lk_cons, ↓reduceIte, Nat.reduceEqDiff, ne_eq, not_true_eq_false, not_false_eq_true, Nat.one_ne_zero, Nat.zero_ne_one, Nat.succ_ne_self, Nat.reduceAdd, Bool.false_eq_true, false_implies, implies_true, reduceCtorEq, rV]
      · have a5 : seq (sha (bts (imgOf at_ d z))) (h.extract 5 37) = false := seq_ne c5
        rw [if_pos c5]
        simp -implicitDefEqProofs only [go_sem, ↓reduceIte, Nat.reduceEqDiff, Nat.reduceAdd, Nat.reduceMul, Nat.reduceLT, Nat.reduceLeDiff, Nat.reduceSub, Int.reduceToNat, Int.reduceLE, Int.reduceLT, reduceCtorEq, Int.reduceEq, Int.reduceGT, Int.reduceGE, Int.reduceNeg, a5]
        refine sub_mk [] rfl rfl rfl ?_
        simp only [tmSub, hpSub, objSub, eqTm, eqHp, rn, lk, SV.ren, SV.renC, SV.renB, SV.renA, ren_ints, ren_strs, ren_pl, ren_svs, SV.v.injEq, Value.int.injEq, Body.ints.injEq, SV.ptr.injEq, SV.sl.injEq, Value.string.injEq, Value.bool.injEq, List.map_cons, List.map_nil, forall_const, Nat.reduceLT, Nat.lt_add_one, imp_self, true_and, and_true, and_self, ob_some, get_mk, lk_cons, ↓reduceIte, Nat.reduceEqDiff, ne_eq, not_true_eq_false, not_false_eq_true, Nat.one_ne_zero, Nat.zero_ne_one, Nat.succ_ne_self, Nat.reduceAdd, Bool.false_eq_true, false_implies, implies_true, reduceCtorEq, rV]
        rfl
end
section
/- Slots: Read at any heap; the document's Read. -/
set_option linter.unusedVariables false
set_option linter.unusedSimpArgs false
set_option maxHeartbeats 2000000
set_option maxRecDepth 100000
open Go.Proofs
variable {H : Hp} {n : Nat} {x : Nat → Option SO} {d d' : Fd} {i a b c : Nat} {u1 u2 u3 : Bool}

theorem sreadS {bs r q : Nat} {slot : Int} {w : Bool} (hb : bs ≤ 4096) (hr : r ≤ 128) (hg : H.get q = some ⟨w, slB i bs r⟩) (h : DevAt H d i a b c) (hq : 0 < q) (hd : d.ok) (hl : bs + 2 * (1 + r) ≤ d.seen.length) {p : Nat × ByteArray × Int} (hp : srT bs r slot d = p) :
    SpecAt Try.prog nSRead [.ptr q 0, .v (.int .i64 slot)] H n (rV p) H n := by
  subst hp
  obtain ⟨hi, ha, hb', hc, ⟨p1, p2, p3, p4⟩, ⟨q1, q2, q3, q4⟩, n1, n2, n3, n4, n5, n6⟩ := h
  have := lift_ro (n := n) (okT.spec tSRead (sreadW (x := H.x) (slot := slot) hb hr hd hl)) [(1, q), (2, i), (3, a), (4, b), (5, c)] rfl rfl rfl (by omega) rfl rfl
    ⟨sub_ro rfl hq hg rfl, sub_ro rfl p1 hi rfl, sub_ro rfl p2 ha rfl, sub_ro rfl p3 hb' rfl, sub_ro rfl p4 hc rfl, trivial⟩ (by simp [srH, apartB, apart1, rn, lk]) (by simp [srH, wrNZ, rn, lk]) rfl
  exact this
end
end Go.Sx
/- Slots: what a write leaves, step by step; what is then read. -/
set_option linter.unusedVariables false
set_option linter.unusedSimpArgs false
set_option maxRecDepth 100000
namespace Go.Sx
open Go.Proofs
variable {H : Hp} {n : Nat} {x : Nat → Option SO} {d d' : Fd} {i a b c : Nat} {u1 u2 u3 : Bool}

/-- A device that is on, what is safe, what is pending. -/
structure GoodP (f0 : Bool) (m : Nat) (st : Int) (X : List (List Int)) (Y : List (Nat × List Int)) (d : Fd) : Prop where
  off : d.off = false
  safe : d.safe = X
  pend : d.pend = Y
  sn : Sn d
  len : d.seen.length = m
  st : d.st = st
  fa : f0 = true → d.fa = 0
def InvP (f0 : Bool) (m : Nat) (P : List (List Int) → List (Nat × List Int) → Prop) (st : Int) (X : List (List Int)) (Y : List (Nat × List Int)) (p : Int × Fd) : Prop :=
  (p.1 = 0 ∧ GoodP f0 m st X Y p.2) ∨ (f0 = false ∧ p.1 = 7 ∧ P p.2.safe p.2.pend)
theorem inv_wr {f0 : Bool} {m : Nat} {P : List (List Int) → List (Nat × List Int) → Prop} {st : Int} {X : List (List Int)} {Y : List (Nat × List Int)} {p : Int × Fd} {k : Nat} {s : ByteArray}
    (h : InvP f0 m P st X Y p) (hP : P X Y) (hk : k < m) (hs : s.size ≤ 64) : InvP f0 m P (st + 1) X (Y ++ [(k, pad64 (bts s))]) (thn p fun d => wrT d k s) := by
  rcases h with ⟨h0, g⟩ | ⟨hf, h7, hp⟩
  · rw [thn_ok h0]
    obtain ⟨e, d⟩ := p
    obtain ⟨g1, g2, g3, g4, g5, g6, g7⟩ := g
    simp only at g1 g2 g3 g4 g5 g6 g7
    unfold wrT
    have hN : wrNo d k s = if d.fa = 1 then some (7, stepD d) else none := by
      unfold wrNo; rw [g1, if_neg Bool.false_ne_true, if_neg (by omega), if_neg (by omega)]
    rw [hN]
    by_cases hfa : d.fa = 1
    · rw [if_pos hfa]
      refine .inr ⟨?_, rfl, ?_⟩
      · cases f0
        · rfl
        · have := g7 rfl; omega
      · show P (stepD d).safe (stepD d).pend
        rw [stepD_safe.1, stepD_safe.2.1, g2, g3]; exact hP
    · rw [if_neg hfa]
      refine .inl ⟨rfl, ⟨?_, ?_, ?_, ?_, ?_, ?_, ?_⟩⟩
      · show (wrD d _ s).off = false
        rw [wrD_off hfa, g1]
      · show (wrD d _ s).safe = X
        rw [wrD_safe, g2]
      · show (wrD d _ s).pend = _
        rw [wrD_pend, g3, Int.toNat_natCast]
      · exact g4.wr
      · show (wrD d _ s).seen.length = _
        rw [wrD_len, g5]
      · show (wrD d _ s).st = _
        rw [wrD_st hfa, g6]
      · intro hf; show (wrD d _ s).fa = _
        exact wrD_fa (g7 hf)
  · have hp1 : p.1 ≠ 0 := by rw [h7]; decide
    rw [thn_no hp1]
    exact .inr ⟨hf, h7, hp⟩
theorem inv_ba {f0 : Bool} {m : Nat} {P : List (List Int) → List (Nat × List Int) → Prop} {st : Int} {X : List (List Int)} {Y : List (Nat × List Int)} {p : Int × Fd}
    (h : InvP f0 m P st X Y p) (hP : P X Y) : InvP f0 m P (st + 1) (setl X Y) [] (thn p baT) := by
  rcases h with ⟨h0, g⟩ | ⟨hf, h7, hp⟩
  · rw [thn_ok h0]
    obtain ⟨e, d⟩ := p
    obtain ⟨g1, g2, g3, g4, g5, g6, g7⟩ := g
    simp only at g1 g2 g3 g4 g5 g6 g7
    unfold baT
    have hN : baNo d = if d.fa = 1 then some (7, stepD d) else none := by
      unfold baNo; rw [g1, if_neg Bool.false_ne_true]
    rw [hN]
    by_cases hfa : d.fa = 1
    · rw [if_pos hfa]
      refine .inr ⟨?_, rfl, ?_⟩
      · cases f0
        · rfl
        · have := g7 rfl; omega
      · show P (stepD d).safe (stepD d).pend
        rw [stepD_safe.1, stepD_safe.2.1, g2, g3]; exact hP
    · rw [if_neg hfa]
      refine .inl ⟨rfl, ⟨?_, ?_, rfl, ?_, ?_, ?_, ?_⟩⟩
      · show (baD d).off = false
        rw [baD_off hfa, g1]
      · show setl d.safe d.pend = _
        rw [g2, g3]
      · show (baD d).seen = setl (baD d).safe (baD d).pend
        rw [g4.ba]; rfl
      · show (baD d).seen.length = _
        rw [baD_seen, g5]
      · show (baD d).st = _
        rw [baD_st hfa, g6]
      · intro hf; exact baD_fa (g7 hf)
  · have hp1 : p.1 ≠ 0 := by rw [h7]; decide
    rw [thn_no hp1]
    exact .inr ⟨hf, h7, hp⟩
/-- The chunks, as they are pending. -/
def pch (a0 : Nat) (I : ByteArray) (j : Nat) : List (Nat × List Int) := (List.range j).map fun k => (a0 + 1 + k, pad64 (bts (chk I k)))
def z64 : List Int := pad64 (bts ⟨#[]⟩)
def hd64 (v : Nat) (I : ByteArray) : List Int := pad64 (bts (hdrT v I))
theorem pch_succ {a0 : Nat} {I : ByteArray} {j : Nat} : pch a0 I (j + 1) = pch a0 I j ++ [(a0 + 1 + j, pad64 (bts (chk I j)))] := by
  unfold pch; rw [List.range_succ, List.map_append]; rfl
theorem chk_size {I : ByteArray} {j : Nat} : (chk I j).size ≤ 64 := by
  unfold chk; rw [ByteArray.size_extract]; omega
/-- The states on the way of a write. -/
inductive PhA (S : List (List Int)) (a0 v : Nat) (I : ByteArray) : List (List Int) → List (Nat × List Int) → Prop
  | p0 : PhA S a0 v I S []
  | p1 : PhA S a0 v I S [(a0, z64)]
  | p2 (j : Nat) (h : j ≤ nCh I) : PhA S a0 v I (S.set a0 z64) (pch a0 I j)
  | p4 : PhA S a0 v I (setl (S.set a0 z64) (pch a0 I (nCh I))) []
  | p5 : PhA S a0 v I (setl (S.set a0 z64) (pch a0 I (nCh I))) [(a0, hd64 v I)]
/-- What is safe behind a write. -/
def doneS (S : List (List Int)) (a0 v : Nat) (I : ByteArray) : List (List Int) := (setl (S.set a0 z64) (pch a0 I (nCh I))).set a0 (hd64 v I)
theorem slW_inv {f0 : Bool} {m a0 v r : Nat} {st : Int} {S : List (List Int)} {I : ByteArray} (g : GoodP f0 m st S [] d) (hm : a0 + 1 + r ≤ m) (hI : nCh I ≤ r) :
    InvP f0 m (PhA S a0 v I) (st + 5 + nCh I) (doneS S a0 v I) [] (slW a0 v I d) := by
  have hh : (hdrT v I).size ≤ 64 := by rw [hdr_size]; decide
  have h0 : InvP f0 m (PhA S a0 v I) st S [] (0, d) := .inl ⟨rfl, g⟩
  have h1 := inv_wr (k := a0) (s := ⟨#[]⟩) h0 .p0 (by omega) (by decide)
  rw [thn_ok rfl] at h1
  have h2 : InvP f0 m (PhA S a0 v I) (st + 1 + 1) (S.set a0 z64) [] (p1 a0 d) := inv_ba h1 .p1
  have h3 : ∀ j, j ≤ nCh I → InvP f0 m (PhA S a0 v I) (st + 2 + j) (S.set a0 z64) (pch a0 I j) (pC a0 I d j) := by
    intro j
    induction j with
    | zero => intro _; have e : st + 1 + 1 = st + 2 + (0 : Nat) := by omega
              rw [e] at h2; exact h2
    | succ j ih =>
      intro hj
      have := inv_wr (k := a0 + 1 + j) (s := chk I j) (ih (by omega)) (.p2 j (by omega)) (by omega) chk_size
      rw [← pch_succ, show st + 2 + (j : Int) + 1 = st + 2 + ((j + 1 : Nat) : Int) by omega] at this
      exact this
  have h4 : InvP f0 m (PhA S a0 v I) (st + 2 + nCh I + 1) (setl (S.set a0 z64) (pch a0 I (nCh I))) [] (p2 a0 I d) := inv_ba (h3 _ (Nat.le_refl _)) (.p2 _ (Nat.le_refl _))
  have h5 : InvP f0 m (PhA S a0 v I) (st + 2 + nCh I + 1 + 1) (setl (S.set a0 z64) (pch a0 I (nCh I))) [(a0, hd64 v I)] (p3 a0 v I d) := inv_wr h4 .p4 (by omega) hh
  have h6 : InvP f0 m (PhA S a0 v I) (st + 2 + nCh I + 1 + 1 + 1) (doneS S a0 v I) [] (slW a0 v I d) := inv_ba h5 .p5
  rw [show st + 2 + (nCh I : Int) + 1 + 1 + 1 = st + 5 + nCh I by omega] at h6
  exact h6
end Go.Sx

/- Slots: what is then read. -/
set_option linter.unusedVariables false
set_option linter.unusedSimpArgs false
set_option maxRecDepth 100000
namespace Go.Sx
open Go.Proofs
variable {H : Hp} {n : Nat} {x : Nat → Option SO} {d d' : Fd} {i a b c : Nat} {u1 u2 u3 : Bool}

theorem getD_set_ne {α : Type} {l : List α} {i j : Nat} {v z : α} (h : i ≠ j) : (l.set i v).getD j z = l.getD j z := by
  rw [List.getD_eq_getElem?_getD, List.getElem?_set_ne h, ← List.getD_eq_getElem?_getD]
theorem getD_set_eq {α : Type} {l : List α} {i : Nat} {v z : α} (h : i < l.length) : (l.set i v).getD i z = v := by
  rw [List.getD_eq_getElem?_getD, List.getElem?_set_self h]; rfl
theorem pch_len {a0 j : Nat} {I : ByteArray} : (pch a0 I j).length = j := by simp [pch]
theorem pch_mem {a0 j : Nat} {I : ByteArray} : ∀ w ∈ pch a0 I j, a0 < w.1 ∧ w.1 ≤ a0 + j ∧ w.2.length = 64 := by
  intro w hw
  unfold pch at hw
  obtain ⟨k, hk, rfl⟩ := List.mem_map.1 hw
  have := List.mem_range.1 hk
  exact ⟨by show a0 < a0 + 1 + k; omega, by show a0 + 1 + k ≤ a0 + j; omega, pad64_len (by rw [bts_len]; exact chk_size)⟩
theorem pch_get {a0 j k : Nat} {I : ByteArray} (h : k < j) : (pch a0 I j).getD k (0, []) = (a0 + 1 + k, pad64 (bts (chk I k))) := by
  unfold pch
  rw [List.getD_eq_getElem?_getD, List.getElem?_map, List.getElem?_range h]; rfl
theorem setl_pch {S : List (List Int)} {a0 j k : Nat} {I : ByteArray} (h : k < j) (hl : a0 + 1 + k < S.length) : (setl S (pch a0 I j)).getD (a0 + 1 + k) [] = pad64 (bts (chk I k)) := by
  have := setl_hit (S := S) (ws := pch a0 I j) (t := k) (j := a0 + 1 + k) (by rw [pch_len]; exact h) hl (by rw [pch_get h]) (by
    intro w hw
    unfold pch at hw
    rw [← List.map_drop] at hw
    obtain ⟨q, hq, rfl⟩ := List.mem_map.1 hw
    have : k + 1 ≤ q := by
      rw [List.range_eq_range', List.drop_range'] at hq
      have := List.mem_range'.1 hq
      omega
    show a0 + 1 + q ≠ a0 + 1 + k
    omega)
  rw [this, pch_get h]
theorem done_at {S : List (List Int)} {a0 v : Nat} {I : ByteArray} (h : a0 < S.length) : (doneS S a0 v I).getD a0 [] = hd64 v I := by
  unfold doneS; rw [getD_set_eq (by rw [setl_len, List.length_set]; exact h)]
theorem done_ch {S : List (List Int)} {a0 v k : Nat} {I : ByteArray} (hk : k < nCh I) (h : a0 + 1 + k < S.length) : (doneS S a0 v I).getD (a0 + 1 + k) [] = pad64 (bts (chk I k)) := by
  unfold doneS; rw [getD_set_ne (by omega), setl_pch hk (by rw [List.length_set]; exact h)]
theorem done_ne {S : List (List Int)} {a0 v k : Nat} {I : ByteArray} (hk : k < a0 ∨ a0 + nCh I < k) : (doneS S a0 v I).getD k [] = S.getD k [] := by
  unfold doneS
  rw [getD_set_ne (by omega), setl_none (fun w hw => by have := pch_mem w hw; omega), getD_set_ne (by omega)]
theorem done_len {S : List (List Int)} {a0 v : Nat} {I : ByteArray} : (doneS S a0 v I).length = S.length := by
  unfold doneS; rw [List.length_set, setl_len, List.length_set]
theorem pad_bytes {ys : List Int} (h : ∀ y ∈ ys, 0 ≤ y ∧ y ≤ 255) : ∀ y ∈ pad64 ys, 0 ≤ y ∧ y ≤ 255 := by
  intro y hy
  unfold pad64 at hy
  rcases List.mem_append.1 hy with hy | hy
  · exact h y hy
  · rw [List.eq_of_mem_replicate hy]; decide
theorem pad_split {B : List Int} {j : Nat} (h : 64 * j < B.length) : pad64 ((B.drop (64 * j)).take (min (64 * j + 64) B.length - 64 * j)) = ((B ++ List.replicate 64 0).drop (64 * j)).take 64 := by
  unfold pad64
  rw [List.drop_append_of_le_length (by omega), List.take_append]
  simp only [List.length_take, List.length_drop]
  have e1 : min (64 * j + 64) B.length - 64 * j = min 64 (B.length - 64 * j) := by omega
  rw [e1, List.take_replicate]
  congr 1
  · rw [show min 64 (B.length - 64 * j) = min 64 (B.drop (64 * j)).length by rw [List.length_drop], ← List.take_eq_take_min]
  · congr 1; omega
theorem bts_chk {I : ByteArray} {j : Nat} : bts (chk I j) = ((bts I).drop (64 * j)).take (min (64 * j + 64) (bts I).length - 64 * j) := by
  unfold chk; rw [bts_ext, bts_len]
theorem imgT_done {a0 : Nat} {I : ByteArray} (hc : ∀ k, k < nCh I → d.seen.getD (a0 + 1 + k) [] = pad64 (bts (chk I k))) : ∀ j, j ≤ nCh I → bts (imgT a0 d j) = (bts I ++ List.replicate 64 0).take (64 * j)
  | 0, _ => rfl
  | j + 1, h => by
    have hj : 64 * j < I.size := nCh_lt.1 (by omega)
    show bts (imgT a0 d j ++ secT d ((a0 : Int) + 1 + j)) = _
    rw [bts_app, imgT_done hc j (by omega)]
    have e : secT d ((a0 : Int) + 1 + j) = tx (pad64 (bts (chk I j))) := by
      unfold secT
      rw [show ((a0 : Int) + 1 + j).toNat = a0 + 1 + j by omega, hc j (by omega)]
    rw [e, btx (pad_bytes bts_bytes), bts_chk, pad_split (by rw [bts_len]; exact hj), show 64 * (j + 1) = 64 * j + 64 by omega, List.take_add]
theorem imgOf_done {a0 : Nat} {I : ByteArray} (hc : ∀ k, k < nCh I → d.seen.getD (a0 + 1 + k) [] = pad64 (bts (chk I k))) : imgOf a0 d I.size = I := by
  apply bts_inj
  unfold imgOf
  rw [bts_ext, show (I.size + 63) / 64 = nCh I from rfl, imgT_done hc _ (Nat.le_refl _)]
  have h1 : I.size ≤ 64 * nCh I := by unfold nCh; omega
  have h2 : (bts I).length = I.size := bts_len I
  rw [List.drop_zero, Nat.sub_zero, List.take_take, Nat.min_eq_left h1, List.take_append_of_le_length (by omega), List.take_of_length_le (by omega)]
theorem hdr_bytes {v : Nat} {I : ByteArray} : ∀ y ∈ hdrL v I, 0 ≤ y ∧ y ≤ 255 := by
  intro y hy
  unfold hdrL at hy
  simp only [List.mem_append] at hy
  rcases hy with ((hy | hy) | hy) | hy
  · exact be_bytes y hy
  · exact be_bytes y hy
  · exact bts_bytes y hy
  · exact be_bytes y hy
theorem hd64_eq {v : Nat} {I : ByteArray} : hd64 v I = hdrL v I ++ List.replicate 26 0 := by
  unfold hd64 pad64 hdrT
  rw [btx hdr_bytes]
  have : (hdrL v I).length = 38 := by rw [← tx_sz]; exact hdr_size
  rw [this]
theorem hd64_bytes {v : Nat} {I : ByteArray} : ∀ y ∈ hd64 v I, 0 ≤ y ∧ y ≤ 255 := pad_bytes bts_bytes
theorem hd_f1 {v : Nat} {I : ByteArray} : ((hd64 v I).drop 0).take 1 = be v 1 := by
  rw [hd64_eq]; unfold hdrL
  rw [List.drop_zero, List.append_assoc, List.append_assoc, List.append_assoc, List.take_append_of_le_length (by rw [be_len]; decide), List.take_of_length_le (by rw [be_len]; decide)]
theorem hd_f2 {v : Nat} {I : ByteArray} : ((hd64 v I).drop 1).take 4 = be I.size 4 := by
  rw [hd64_eq]; unfold hdrL
  rw [List.append_assoc, List.append_assoc, List.append_assoc, List.drop_append, be_len, List.drop_of_length_le (by rw [be_len]; decide)]
  rw [List.nil_append, Nat.sub_self, List.drop_zero, List.take_append_of_le_length (by rw [be_len]; decide), List.take_of_length_le (by rw [be_len]; decide)]
theorem hd_f3 {v : Nat} {I : ByteArray} : ((hd64 v I).drop 5).take 32 = bts (sha (bts I)) := by
  have h32 : (bts (sha (bts I))).length = 32 := by rw [bts_len, sha_size]
  rw [hd64_eq]; unfold hdrL
  rw [List.append_assoc, List.append_assoc, List.drop_append, List.drop_of_length_le (by simp only [List.length_append, be_len]; decide)]
  simp only [List.length_append, be_len]
  rw [List.nil_append, Nat.sub_self, List.drop_zero, List.take_append_of_le_length (by omega), List.take_of_length_le (by omega)]
theorem hd_f4 {v : Nat} {I : ByteArray} : ((hd64 v I).drop 37).take 1 = be v 1 := by
  have h32 : (bts (sha (bts I))).length = 32 := by rw [bts_len, sha_size]
  rw [hd64_eq]; unfold hdrL
  rw [List.append_assoc, List.drop_append, List.drop_of_length_le (by simp only [List.length_append, be_len, h32]; decide)]
  simp only [List.length_append, be_len, h32]
  rw [List.nil_append, Nat.sub_self, List.drop_zero, List.take_append_of_le_length (by rw [be_len]; decide), List.take_of_length_le (by rw [be_len]; decide)]
theorem sec_ext {k a b : Nat} {T : List Int} (h : d.seen.getD k [] = T) (hT : ∀ y ∈ T, 0 ≤ y ∧ y ≤ 255) : bts ((secT d k).extract a b) = (T.drop a).take (b - a) := by
  unfold secT
  rw [Int.toNat_natCast, h, bts_ext, btx hT]
theorem srT_done {bs r a0 v : Nat} {slot : Int} {I : ByteArray} (hs : slOK slot = true) (ho : d.off = false) (hat : atV bs r slot = a0) (hh : d.seen.getD a0 [] = hd64 v I) (hc : ∀ k, k < nCh I → d.seen.getD (a0 + 1 + k) [] = pad64 (bts (chk I k)))
    (hv : 1 ≤ v ∧ v < 256) (hI : 1 ≤ I.size ∧ I.size ≤ 8192 ∧ I.size ≤ r * 64) : srT bs r slot d = (v, I, 0) := by
  unfold srT
  rw [if_neg (by rw [hs]; decide), if_neg (by rw [ho]; decide), hat]
  rw [num_be (t := (secT d a0).extract 0 1) (y := v) (k := 1) (by rw [sec_ext hh hd64_bytes]; exact hd_f1) (by omega),
    num_be (t := (secT d a0).extract 1 5) (y := I.size) (k := 4) (by rw [sec_ext hh hd64_bytes]; exact hd_f2) (by omega),
    num_be (t := (secT d a0).extract 37 38) (y := v) (k := 1) (by rw [sec_ext hh hd64_bytes]; exact hd_f4) (by omega)]
  have e : (secT d a0).extract 5 37 = sha (bts I) := bts_inj (by rw [sec_ext hh hd64_bytes]; exact hd_f3)
  rw [e]
  unfold srV
  rw [if_neg (by omega), imgOf_done hc, if_neg (fun h => h rfl)]
/-- A header whose first byte is 0, or whose version bytes differ. -/
theorem srT_none {bs r a0 : Nat} {slot : Int} {T : List Int} {y z : Nat} (hs : slOK slot = true) (ho : d.off = false) (hat : atV bs r slot = a0) (hh : d.seen.getD a0 [] = T) (hT : ∀ y ∈ T, 0 ≤ y ∧ y ≤ 255)
    (hy : (T.drop 0).take 1 = be y 1) (hz : (T.drop 37).take 1 = be z 1) (h1 : y < 256) (h2 : z < 256) (hne : y = 0 ∨ y ≠ z) : srT bs r slot d = (0, ⟨#[]⟩, 5) := by
  unfold srT
  rw [if_neg (by rw [hs]; decide), if_neg (by rw [ho]; decide), hat]
  rw [num_be (t := (secT d a0).extract 0 1) (y := y) (k := 1) (by rw [sec_ext hh hT]; exact hy) (by omega),
    num_be (t := (secT d a0).extract 37 38) (y := z) (k := 1) (by rw [sec_ext hh hT]; exact hz) (by omega)]
  unfold srV
  rw [if_pos (by omega)]
end Go.Sx

/- Slots: the example; nothing is read of, or written to, no slots. -/
set_option linter.unusedVariables false
set_option linter.unusedSimpArgs false
set_option maxRecDepth 100000
namespace Go.Sx
attribute [local go_sem ↓] bind_mk intsB_mk strsB_mk svB_mk fnVC ob_some vc_skip vc_exit vc_ret vc_seq vc_block kSeq_normal kSeq_exit kSeq_ret kBlock_normal kBlock_exit kBlock_ret vc_reg vc_regD vc_cond condK_true condK_false vc_loop kLoop_exit kLoop_ret kRoll_normal kRoll_exit kRoll_ret vcOps_nil vcOps_cons gd_bool gd_undef put_some put_none vcT_fin vcT_pure vcT_act vcT_acts vcT_stop stab_none stab_some stabM_nil stabM_cons stabO_ld stabO_ldn stabO_slP stabO_b2s fldOf_ai fldOf_agg fldOf_ait fldOf_aggt intsOf_nil intsOf_cons strsOf_nil strsOf_cons c_omap ob_if lk_nil lk_cons ev_t ev_k z_mov z_pick z_bin z_binB z_binP z_un z_r2s z_conv z_s2b z_b2s z_allocT aggOf_mk z_boxT z_alloc z_bld z_bldI z_rowI z_rowS z_ld z_ldn z_st z_stn asN_ptr asN_fn z_nilck z_fld z_fadr z_idxA z_idxP z_idxS z_idxV z_slS z_slL z_slP z_mk z_lenS z_lenL z_app appC_ints appC_pl appC_sv appC_strs isS_strs loose_ints loose_pl loose_sv z_slM z_callv callvK_fn callvK_f callvK_yl vc_rangeF rfEnd_eq rfGo_none rfGo_ret rfGo_exit yGo_mk yEnd_n yEnd_r yEnd_e yRdy_mk yMid_n putPs_nil putPs_cons leaf_v leaf_ptr leaf_sl leaf_yl leaf_mp z_appS z_appST z_appZ z_cpyS z_mkfn reps_int reps_str z_rowV z_slnil nilK_zero z_cpy z_call asT_tup z_extT z_box boxOf_ai boxOf_agg boxOf_int boxOf_str boxOf_bool boxOf_ptr boxOf_sl sbin_int sbin_str sbinB_mk sbinP_nn sbinP_pn sbinP_np i_add i_sub i_mul i_quo i_rem i_and i_or i_xor i_andNot i_shl i_shr i_eql i_neq i_lss i_leq i_gtr i_geq st_add st_eql st_neq st_lss st_leq st_gtr st_geq bo_eql bo_neq pt_eql pt_neq un_neg un_xor un_not asI_mk asB_mk asS_mk asP_mk asSl_mk asBy_mk bnd_none bnd_some get_mk hput_mk hdel_mk kill_eq wrOf_eq rowOf_eq rsvs_0 rsvs_1 rsvs_2 rsvs_3 rsv_t rsv_c1 rsv_cn nt_v nt_ptr nt_sl nt_agg nt_ai get_ints get_strs get_pl get_sv getN_ints getN_sv set_ints set_strs set_sv setN_ints setN_sv part_ints part_strs part_sv cat_ints cat_strs cat_sv over_ints over_strs over_sv ones_ints ones_strs evs_nil evs_cons condK_eqt condK_eqf det_callP V_ns V_nn V_gs V_gn obC_mk fresh_ev freshT_ev freshR_ev setN_plagg setN_intsv setN_svai setN_svagg over_intsv set_pl setN_pl setN_plai getN_pl getN_strs part_pl cat_pl over_pl over_plints z_mm
attribute [local go_sem] initTm ne_eq not_true_eq_false not_false_eq_true true_and and_true List.length_cons List.length_nil Int.toNat_natCast Nat.add_zero Nat.zero_add Nat.mul_one List.getElem?_cons_zero List.drop_zero List.take_length List.take_succ_cons List.take_zero List.take_nil List.drop_succ_cons Option.map_some Nat.le_refl implies_true List.getElem?_cons_succ decide_true decide_false Bool.not_true Bool.not_false beq_self_eq_true Nat.succ_ne_self Nat.one_ne_zero Nat.zero_ne_one vk_mk hk_mk nk_mk tok_eq plsOf_map intsOf_map bodyOf_pl bodyOf_ints bodyOf_strs bodyOf_sv part_aggv part_agg part_ai part_int part_str part_bool part_sl part_ptr part_nil numsOf_map u_int u_str u_bool u_pnil u_sl u_ptr u_oci u_ocs evq_nil evq_cons fillS_nil fillS_cons u_ocb ones_pl cells_sv cells_ints cells_strs cells_pl smms_nil smms_cons smm_min smm_max plsOf_nil List.nil_append List.all_cons List.all_nil Bool.and_self Bool.true_and Bool.and_true zws_len zw_len zi_len List.set_cons_zero List.set_cons_succ List.flatMap_cons List.flatMap_nil List.append_nil
section
open Go.Proofs
variable {H : Hp} {n : Nat} {x : Nat → Option SO} {d d' : Fd} {i a b c : Nat} {u1 u2 u3 : Bool}

theorem swR_inv {f0 : Bool} {m a0 r bs v : Nat} {st slot : Int} {S : List (List Int)} {I : ByteArray} (g : GoodP f0 m st S [] d) (hm : a0 + 1 + r ≤ m) (hs : slOK slot = true) (hat : atV bs r slot = a0)
    (hv : 1 ≤ v ∧ v < 256) (hI : 1 ≤ I.size ∧ I.size ≤ 8192 ∧ I.size ≤ r * 64) : InvP f0 m (PhA S a0 v I) (st + 5 + nCh I) (doneS S a0 v I) [] (swR bs r slot v I d) := by
  have hE : swE r slot v I = 0 := by
    unfold swE
    rw [if_neg, if_neg (by omega)]
    rw [hs]
    intro h
    rcases h with h | h | h | h
    · cases h
    · omega
    · omega
    · rw [h] at hI; exact absurd hI.1 (by decide)
  unfold swR
  rw [if_pos hE, Int.toNat_natCast, hat]
  exact slW_inv g hm (by unfold nCh; omega)
theorem goodNew {m : Nat} : GoodP true m 0 (List.replicate m (zi 64)) [] (newD m) := ⟨rfl, rfl, rfl, rfl, by simp [newD], rfl, fun _ => rfl⟩
theorem inv_good {m : Nat} {P : List (List Int) → List (Nat × List Int) → Prop} {st : Int} {X : List (List Int)} {Y : List (Nat × List Int)} {p : Int × Fd} (h : InvP true m P st X Y p) : p.1 = 0 ∧ GoodP true m st X Y p.2 := by
  rcases h with h | ⟨h, _⟩
  · exact h
  · cases h
theorem GoodP.seen {f0 : Bool} {m : Nat} {st : Int} {S : List (List Int)} (g : GoodP f0 m st S [] d) : d.seen = S := by
  rw [show d.seen = setl d.safe d.pend from g.sn, g.safe, g.pend]; rfl
/-- Behind a write that was done, the slot reads so. -/
theorem srT_wrote {f0 : Bool} {m a0 r bs v : Nat} {st slot : Int} {S : List (List Int)} {I : ByteArray} (g : GoodP f0 m st (doneS S a0 v I) [] d) (hl : S.length = m) (hm : a0 + 1 + r ≤ m) (hs : slOK slot = true) (hat : atV bs r slot = a0)
    (hv : 1 ≤ v ∧ v < 256) (hI : 1 ≤ I.size ∧ I.size ≤ 8192 ∧ I.size ≤ r * 64) : srT bs r slot d = (v, I, 0) := by
  have hN : nCh I ≤ r := by unfold nCh; omega
  refine srT_done hs g.off hat ?_ (fun k hk => ?_) hv hI
  · rw [g.seen]; exact done_at (by omega)
  · rw [g.seen]; exact done_ch hk (by omega)
theorem zi64_f {k : Nat} (h : k < 64) : ((zi 64).drop k).take 1 = be 0 1 := by
  unfold zi
  rw [List.drop_replicate, List.take_replicate, Nat.min_eq_left (by omega)]; rfl
theorem srT_zero {bs r a0 : Nat} {slot : Int} (hs : slOK slot = true) (ho : d.off = false) (hat : atV bs r slot = a0) (hh : d.seen.getD a0 [] = zi 64) : srT bs r slot d = (0, ⟨#[]⟩, 5) :=
  srT_none hs ho hat hh (fun y hy => by unfold zi at hy; rw [List.eq_of_mem_replicate hy]; decide) (zi64_f (by decide)) (zi64_f (by decide)) (by decide) (by decide) (.inl rfl)
def im5 : ByteArray := ⟨#[105, 109, 97, 103, 101]⟩
theorem kp_all {p : Int × Fd} (hp : swR 0 3 0 3 im5 (newD 8) = p) : p.1 = 0 ∧ p.2.st = 6 ∧ srT 0 3 0 p.2 = (3, im5, 0) ∧ srT 0 3 1 p.2 = (0, ⟨#[]⟩, 5) ∧ p.2.off = false := by
  subst hp
  have h := inv_good (swR_inv (bs := 0) (r := 3) (slot := 0) (v := 3) (I := im5) (a0 := 0) (goodNew (m := 8)) (by decide) rfl rfl (by decide) (by decide))
  refine ⟨h.1, h.2.st, srT_wrote h.2 (by simp) (by decide) rfl rfl (by decide) (by decide), srT_zero (a0 := 4) rfl h.2.off rfl ?_, h.2.off⟩
  show (swR 0 3 0 ((3 : Nat) : Int) im5 (newD 8)).2.seen.getD 4 [] = zi 64
  rw [h.2.seen, done_ne (.inr (by decide))]
  rfl
theorem keepsS (hn : n + 8 ≤ 1000) : SpecAt Try.prog nkeeps22 [] H n (.v (.bool true)) H n := lift_pure (okT.spec tkeeps22 (by
  unfold mkeeps22
  simp -implicitDefEqProofs only [↓fnVC, initTm]
  simp -implicitDefEqProofs only [go_sem, ↓reduceIte, Nat.reduceEqDiff, Nat.reduceAdd, Nat.reduceMul, Nat.reduceLT, Nat.reduceLeDiff, Nat.reduceSub, Int.reduceToNat, Int.reduceLE, Int.reduceLT, reduceCtorEq, Int.reduceEq, Int.reduceGT, Int.reduceGE, Int.reduceNeg]
  refine at_call tFNew (nwD (k := 8) (by decide) (by decide) (by decide)) ?_
  unfold devL
  simp -implicitDefEqProofs only [go_sem, ↓reduceIte, Nat.reduceEqDiff, Nat.reduceAdd, Nat.reduceMul, Nat.reduceLT, Nat.reduceLeDiff, Nat.reduceSub, Int.reduceToNat, Int.reduceLE, Int.reduceLT, reduceCtorEq, Int.reduceEq, Int.reduceGT, Int.reduceGE, Int.reduceNeg, List.isEmpty_cons, Bool.false_eq_true, if_false]
  refine at_call tSOpen (openS (i := 1) (a := 2) (b := 3) (c := 4) (d := newD 8) (bs := 0) (r := 3) ⟨by rfl, by rfl, by rfl, by rfl, by decide⟩ (by simp [newD]) (by decide) rfl (by decide)) ?_
  unfold devL
  simp -implicitDefEqProofs only [go_sem, ↓reduceIte, Nat.reduceEqDiff, Nat.reduceAdd, Nat.reduceMul, Nat.reduceLT, Nat.reduceLeDiff, Nat.reduceSub, Int.reduceToNat, Int.reduceLE, Int.reduceLT, reduceCtorEq, Int.reduceEq, Int.reduceGT, Int.reduceGE, Int.reduceNeg, List.isEmpty_cons, Bool.false_eq_true, if_false]
  generalize hp : swR 0 3 0 3 im5 (newD 8) = p
  obtain ⟨k1, k2, k3, k4, k5⟩ := kp_all hp
  refine at_call tSWrite (swriteS (q := 5) (i := 1) (a := 2) (b := 3) (c := 4) (d := newD 8) (bs := 0) (r := 3) (slot := 0) (ver := 3) (I := im5) (m := 8) (t := 0) (by decide) (by decide) (by rfl) ⟨by rfl, by rfl, by rfl, by rfl, by decide⟩ (by decide) (Pl.new (by decide)) (by decide) (by decide) hp) ?_
  have hP := swR_pl (d := newD 8) (bs := 0) (r := 3) (slot := 0) (ver := 3) (I := im5) (m := 8) (t := 0) (Pl.new (by decide)) (by decide)
  rw [hp] at hP
  rw [k1, devN_eq]
  simp -implicitDefEqProofs only [go_sem, ↓reduceIte, Nat.reduceEqDiff, Nat.reduceAdd, Nat.reduceMul, Nat.reduceLT, Nat.reduceLeDiff, Nat.reduceSub, Int.reduceToNat, Int.reduceLE, Int.reduceLT, reduceCtorEq, Int.reduceEq, Int.reduceGT, Int.reduceGE, Int.reduceNeg, List.isEmpty_cons, Bool.false_eq_true, if_false]
  refine at_call tFSteps (stS (d := p.2) (a := 6) (b := 7) (c := 8) (by rfl)) ?_
  rw [k2]
  simp -implicitDefEqProofs only [go_sem, ↓reduceIte, Nat.reduceEqDiff, Nat.reduceAdd, Nat.reduceMul, Nat.reduceLT, Nat.reduceLeDiff, Nat.reduceSub, Int.reduceToNat, Int.reduceLE, Int.reduceLT, reduceCtorEq, Int.reduceEq, Int.reduceGT, Int.reduceGE, Int.reduceNeg, List.isEmpty_cons, Bool.false_eq_true, if_false]
  refine at_call tSRead (sreadS (q := 5) (i := 1) (a := 6) (b := 7) (c := 8) (d := p.2) (bs := 0) (r := 3) (slot := 0) (by decide) (by decide) (by rfl) ⟨by rfl, by rfl, by rfl, by rfl, by decide⟩ (by decide) hP.ok (by rw [hP.len]; decide) k3) ?_
  unfold rV
  simp -implicitDefEqProofs only [go_sem, ↓reduceIte, Nat.reduceEqDiff, Nat.reduceAdd, Nat.reduceMul, Nat.reduceLT, Nat.reduceLeDiff, Nat.reduceSub, Int.reduceToNat, Int.reduceLE, Int.reduceLT, reduceCtorEq, Int.reduceEq, Int.reduceGT, Int.reduceGE, Int.reduceNeg, List.isEmpty_cons, Bool.false_eq_true, if_false]
  refine at_call tSRead (sreadS (q := 5) (i := 1) (a := 6) (b := 7) (c := 8) (d := p.2) (bs := 0) (r := 3) (slot := 1) (by decide) (by decide) (by rfl) ⟨by rfl, by rfl, by rfl, by rfl, by decide⟩ (by decide) hP.ok (by rw [hP.len]; decide) k4) ?_
  unfold rV
  have e1 : seq im5 im5 = true := seq_self _
  unfold im5 at e1 ⊢
  have e3 : ((3 : Nat) : Int) = 3 := rfl
  simp -implicitDefEqProofs only [go_sem, ↓reduceIte, Nat.reduceEqDiff, Nat.reduceAdd, Nat.reduceMul, Nat.reduceLT, Nat.reduceLeDiff, Nat.reduceSub, Int.reduceToNat, Int.reduceLE, Int.reduceLT, reduceCtorEq, Int.reduceEq, Int.reduceGT, Int.reduceGE, Int.reduceNeg, e1, e3, List.isEmpty_cons, Bool.false_eq_true, if_false]
  exact sub_val rfl (by decide) (by decide) rfl)) rfl
end
end Go.Sx