/- maps.Clone, maps.Keys, slices.Sorted at a map's keys, by the shelf, in the symbolic heap. -/
import Derived.Test.YtaggkccjgnkloaaGreatSxC
import Derived.Shelf.SlMaps.Clone
import Derived.Shelf.SlIter.Sorted
import Derived.Shelf.Strings.BuilderF
import Derived.Shelf.SortM.Plain
import Derived.Shelf.SortM.SortNone
import Derived.Test.YtaggkccjgnkloaaGreatChecked

set_option linter.unusedVariables false
set_option linter.unusedSimpArgs false
namespace Go.Sx
open Go.Shelf Go.RowKit Go.Proofs Go.Maps Go.MapKept Go.WideElems
variable {P : Program} {σ : Go.Shelf.Ren} {H : Hp} {n : Nat}
theorem clone_S (L : SlLaysW.n5 P σ) {i : Nat} {es : List (Value × Value)} {s : SO} (hg : H.get i = some s) (hb : s.b = .mp (.map es)) (hn : n < 1000) :
    SpecAt P (σ.f 5) [.mp i] H n (.mp n) (H.put n ⟨true, .mp (.map es)⟩) (n + 1) := by
  intro F w0 w ρ xs hH hz hl
  match xs, hz with
  | [x], ⟨⟨b, hbl, hx⟩, _⟩ =>
    subst hx
    obtain ⟨b', ents, clk, e1, e2, e3, e4⟩ := map_obj hH hg hb
    rw [hbl] at e1; cases e1
    refine (AnyW.maps_Clone L b ents clk w e2).mono ?_
    rintro e w' ⟨rfl, rfl⟩
    have hnew := hH.alloc hn (.map ents clk) ⟨true, .mp (.map es)⟩ ⟨some w.heap.size, 0, 0, false, none⟩ rfl rfl ⟨_, ents, clk, rfl, heap_alloc_new w _, e3, e4⟩
    exact ⟨_, _, rfl, ⟨w.heap.size, by rw [upd_same], rfl⟩, by show idOK (n + 1) n = true; unfold idOK; simp, hnew, Ext.upd hn, Nat.le_succ _⟩
theorem keys_S (L : SlLaysZ.n7 P σ) {i : Nat} {s : SO} (hg : H.get i = some s) (hn : n + 1 < 1000) :
    SpecAt P (σ.f 7) [.mp i] H n (.fn (σ.f 10) [.ptr n 0]) ((H.put n ⟨true, .sv [.mp i]⟩).put (n + 1) ⟨false, .mp (.shp n (σ.t 23) (some 1))⟩) (n + 2) := by
  intro F w0 w ρ xs hH hz hl
  match xs, hz with
  | [x], ⟨hxr, _⟩ =>
    have hxr : arel ρ (.mp i) x := hxr
    obtain ⟨b, hbl, hx⟩ := hxr
    subst hx
    refine ((callsIn_wide (n := 6)).1 (AnyZ.keys_in L Fence.wide 6 trivial rfl (some b) w)).mono ?_
    rintro e w' ⟨rfl, rfl⟩
    have hid := (hH.lt i s hg).1
    obtain ⟨ρ', h1, h2, h3, h4⟩ := hH.newValsT hn (σ.t 23) [.map (some b)] (.sv [.mp i]) (by simp) (by simp [Body.lt, ltC, ltB, ltA, hid]) ⟨⟨b, hbl, rfl⟩, trivial⟩
    refine ⟨_, ρ', rfl, ?_, ?_, h1, h2, by omega⟩
    · exact ⟨[.pointer (some ⟨w.heap.size, 0, none⟩)], rfl, ⟨w.heap.size, h3, by rw [h4]⟩, trivial⟩
    · simp [ltT, ltC, ltB, ltA, idOK]
def keyB (e : Value × Value) : List UInt8 := match e.1 with
  | .string s => s.data.toList
  | _ => []
def srtK (es : List (Value × Value)) : List ByteArray := ((es.map keyB).mergeSort fun x y => decide (x ≤ y)).map fun l => ⟨⟨l⟩⟩
theorem HRel.addNew {F : Nat → Prop} {w0 w w' : World} {ρ : Nat → Loc} (h : HRel F w0 ρ n H w) (hb : Below w.heap.size w w') (hn : n < 1000) (s : SO) (l : Loc)
    (hbl : ∀ b, l.blk = some b → w.heap.size ≤ b ∧ b < w'.heap.size) (hlt : s.b.lt n = true) (hok : ObjOK ρ w' l s) (hsh : l.sh = none) : HRel F w0 (upd ρ n l) (n + 1) (H.put n s) w' := by
  have h' := h.below hb
  have hx : Ext n ρ (upd ρ n l) := Ext.upd hn
  have hr : ∀ i, i ≠ n → upd ρ n l i = ρ i := fun i hi => by simp [upd, hi]
  refine ⟨h'.os, h'.tape, h'.output, h'.size, h'.keep, h'.old, ?_, by omega, ?_, ?_, ?_, ?_, ?_, h'.xput hn, h'.shp.upd fun T c b e1 _ => (by rw [hsh] at e1; cases e1), h'.shk⟩
  · rw [hr 0 (by have := h.pos; omega)]; exact h.nil
  · intro i s' hi
    rw [Hp.get_put] at hi
    split at hi
    · rename_i e; subst e; cases hi
      rw [upd_same]; exact ObjOK.ext hx hlt hok
    · rename_i e
      rw [hr i (Ne.symm e)]
      exact ObjOK.ext hx (h'.lt i s' hi).2 (h'.obj i s' hi)
  · intro i s' hi
    rw [Hp.get_put] at hi
    split at hi
    · rename_i e; subst e; cases hi
      exact ⟨by unfold idOK; simp, Body.lt_mono (Nat.le_succ _) hlt⟩
    · exact ⟨idOK_mono (Nat.le_succ _) (h.lt i s' hi).1, Body.lt_mono (Nat.le_succ _) (h.lt i s' hi).2⟩
  · intro i s' b hi hw hbk hF
    rw [Hp.get_put] at hi
    split at hi
    · rename_i e; subst e; rw [upd_same] at hbk
      have h1 := hbl b hbk
      have := h.old _ hF; have := h.size; omega
    · rename_i e
      rw [hr i (Ne.symm e)] at hbk
      exact h.own i s' b hi hw hbk hF
  · intro i j s1 s2 b hij hi hj hw hbk hbk'
    rw [Hp.get_put] at hi hj
    split at hi
    · rename_i e; subst e
      rw [if_neg hij] at hj
      rw [upd_same] at hbk
      rw [hr j (Ne.symm hij)] at hbk'
      have h1 := hbl b hbk
      have := h.live j s2 _ hj hbk'; omega
    · rename_i e
      rw [hr i (Ne.symm e)] at hbk
      split at hj
      · rename_i e'; subst e'; rw [upd_same] at hbk'
        have h1 := hbl b hbk'
        have := h.live i s1 _ hi hbk; omega
      · rename_i e'
        rw [hr j (Ne.symm e')] at hbk'
        exact h.inj i j s1 s2 b hij hi hj hw hbk hbk'
  · intro i s' b hi hbk
    rw [Hp.get_put] at hi
    split at hi
    · rename_i e; subst e; rw [upd_same] at hbk; exact (hbl b hbk).2
    · rename_i e
      rw [hr i (Ne.symm e)] at hbk
      exact h'.live i s' b hi hbk
theorem keyB_rg {k : TypeId} (hk : P.underlying k = some .string) {x : MapEntry} {s : ByteArray} (hx : x.key = .string s) (hs : s.size ≤ maxLen) :
    rd (H := Unit) P k (fun _ => some (.nil, [])) x = some (.string s.data.toList, .nil) := by
  have h1 : keyOf P k x.key = some (.string s.data.toList) := by
    rw [hx]
    simp [keyOf, mapKey, hk, hs]
  simp [rd, h1]
theorem sorted_S (L6 : SlLaysZ.n6 P σ) (L10 : SlLaysZ.n10 P σ) (hsort : ∀ m, AnyZ.SortsIn P σ Fence.wide m) (e9 : ∀ args w, (callFunc (σ.f 9) args).run P w = .ok (.enter (σ.f 9) args) w) (e10 : ∀ args w, (callFunc (σ.f 10) args).run P w = .ok (.enter (σ.f 10) args) w)
    {i j k : Nat} {es : List (Value × Value)} {s u t : SO} {T : Nat} {c0 : Option Nat} (hk : H.get k = some u) (hub : u.b = .sv [.mp i]) (hgh : H.get j = some t) (htb : t.b = .mp (.shp k T c0)) (hg : H.get i = some s) (hb : s.b = .mp (.map es))
    (hkeys : keysS es = true) (hsz : ∀ e ∈ es, (keyB e).length ≤ maxLen) (hlen : es.length ≤ 1000000) (hn : n < 1000) :
    SpecAt P (σ.f 6) [.fn (σ.f 10) [.ptr k 0]] H n (.sl n 0 es.length 1) (H.put n ⟨true, .strs (srtK es)⟩) (n + 1) := by
  intro F w0 w ρ xs hH hz hl
  match xs, hz with
  | [x], ⟨hxr, _⟩ =>
    obtain ⟨ys, hxe, hys⟩ := hxr
    subst hxe
    match ys, hys with
    | [y], ⟨hyr, _⟩ =>
      have hyr : arel ρ (.ptr k 0) y := hyr
      obtain ⟨b, hbk, hy⟩ := hyr
      have hgo := hH.obj j t hgh
      unfold ObjOK at hgo
      rw [htb] at hgo
      obtain ⟨h0, kk, hkk, _⟩ := hgo.2 (by rw [hbk]; simp)
      rw [h0, Nat.zero_add] at hy
      subst hy
      have hrow := obj_row hH hk (by rw [hub]; simp)
      rw [hub] at hrow
      simp only [RowOK, hbk] at hrow
      obtain ⟨ca, T', fr', q1, q2, q3, q4, q5⟩ := hrow
      obtain ⟨z, z1, z2⟩ := q4 0 (.mp i) rfl
      rw [h0, Nat.zero_add] at z1
      have z2 : arel ρ (.mp i) z := z2
      obtain ⟨bm, hbm, hz⟩ := z2
      subst hz
      obtain ⟨b', ents, clk, e1, e2, e3, e4⟩ := map_obj hH hg hb
      rw [hbm] at e1; cases e1
      have hstr := L10.t26
      have hlenE : ents.size = es.length := by rw [← e3]; simp [kvs]
      have hkey : ∀ x ∈ ents.toList, ∃ q : ByteArray, x.key = .string q ∧ q.size ≤ maxLen := by
        intro x hx
        have h1 : (x.key, x.val) ∈ es := by rw [← e3]; exact List.mem_map.2 ⟨x, hx, rfl⟩
        have h2 := List.all_eq_true.1 hkeys _ h1
        have h3 := hsz _ h1
        cases hq : x.key <;> simp [hq] at h2
        rename_i q
        refine ⟨q, rfl, ?_⟩
        simp only [hq, keyB] at h3
        rw [Array.length_toList] at h3
        exact h3
      have hreads : ∀ x ∈ ents.toList, ∃ y, rd (H := Unit) P (σ.t 26) (fun _ => some (.nil, [])) x = some y := fun x hx => by
        obtain ⟨q, h1, h2⟩ := hkey x hx
        exact ⟨_, keyB_rg hstr h1 h2⟩
      have hml : (1000000 : Nat) ≤ maxLen := by decide
      have hown : w.ownsMap P (σ.t 26) (fun _ => some ((.nil : DataW Unit), [])) bm ents.size (.map ((ents.toList.map (rg P (σ.t 26) (fun _ => some (.nil, [])))).foldr DataW.insert [])) :=
        ⟨ents, clk, e2, ⟨by omega, e4, hreads⟩, Nat.le_refl _, rfl⟩
      have hsizeD := hown.size_le
      have hBlt : b < w.heap.size := (Array.getElem?_eq_some_iff.1 q1).1
      have hseq := AnyZ.keys_gives L10 Fence.wide 8 trivial rfl (by decide) b bm ents.size _ w hBlt (by rw [cell_of q1, z1]) hown
      generalize hD : (DataW.map ((ents.toList.map (rg P (σ.t 26) (fun _ => some ((.nil : DataW Unit), [])))).foldr DataW.insert [])) = D0 at hown hsizeD hseq
      have hsorted := AnyZ.sorted_in L6 Fence.wide 11 trivial trivial trivial trivial rfl (by decide) (hsort 10) e9 (σ.f 10) #[.pointer (some ⟨b, 0, none⟩)] trivial e10 _ (Maps.size D0) (by omega) (by omega) w hseq
      refine ((callsIn_wide (n := 11)).1 hsorted).mono ?_
      rintro e w' ⟨v, ss, rfl, hperm, hrow, hnil, hB⟩
      have hpk : ss.Perm (es.map keyB) := by
        refine hperm.trans ?_
        rw [← hD]
        show ((ents.toList.map (rg P (σ.t 26) (fun _ => some ((.nil : DataW Unit), [])))).foldr DataW.insert []).map (fun p => Go.strOf p.1) |>.Perm _
        refine (List.Perm.map _ (Go.WideShapes.sorted_perm _)).trans ?_
        rw [List.map_map, ← e3]
        unfold kvs
        rw [List.map_map]
        refine List.Perm.of_eq (List.map_congr_left fun x hx => ?_)
        obtain ⟨q, h1, h2⟩ := hkey x hx
        show Go.strOf (rg P (σ.t 26) (fun _ => some ((.nil : DataW Unit), [])) x).1 = keyB (x.key, x.val)
        rw [rg_of (keyB_rg hstr h1 h2), h1]
        rfl
      have hms : ss.mergeSort (fun x y => decide (x ≤ y)) = (es.map keyB).mergeSort fun x y => decide (x ≤ y) := mergeSort_of_perm hpk
      have hsl : ss.length = es.length := by rw [hpk.length_eq, List.length_map]
      have hkl : (srtK es).length = es.length := by unfold srtK; rw [List.length_map, List.length_mergeSort, List.length_map]
      have hcells : (ss.mergeSort (fun x y => decide (x ≤ y))).map encStr = (srtK es).map Value.string := by
        rw [hms]; unfold srtK; rw [List.map_map]; rfl
      rw [hcells, hsl] at hrow
      rcases hrow.2 with ⟨rfl, hz0⟩ | ⟨g, cap, cur, rfl, hbase, hgb, r1, r2, r3, r4⟩
      · have hnew := hH.addNew hB hn ⟨true, .strs (srtK es)⟩ ⟨none, 0, 0, true, none⟩ (by simp) (by simp [Body.lt]) (ObjOK.mk (by simp) (by
          show Body.cells (.strs (srtK es)) = []
          have : srtK es = [] := List.eq_nil_of_length_eq_zero (by omega)
          rw [this]; rfl) (by intro h; exact absurd rfl h)) rfl
        refine ⟨_, _, rfl, ?_, lt_new_sl, hnew, Ext.upd hn, Nat.le_succ _⟩
        show slrel (upd ρ n _ n) 0 es.length 1 _
        rw [upd_same]
        exact ⟨by omega, .inl rfl⟩
      · have hnew := hH.addNew hB hn ⟨true, .strs (srtK es)⟩ ⟨some g, 0, cap, true, none⟩ (by
            intro b hb; cases hb; exact ⟨hbase, (Array.getElem?_eq_some_iff.1 hgb).1⟩) (by simp [Body.lt]) (ObjOK.mk (by simp) (by
          show ∃ c T fr, w'.heap[g]? = some (.cells c T fr) ∧ _
          refine ⟨cur, _, _, hgb, by show 0 + cap ≤ _; omega, by show (Body.cells (.strs (srtK es))).length ≤ cap; simp [Body.cells]; omega, ?_, ?_⟩
          · intro j x hx
            rw [Nat.mul_one] at r4
            simp only [Body.cells, List.getElem?_map, Option.map_eq_some_iff] at hx
            obtain ⟨q, hq, rfl⟩ := hx
            have hj : j < es.length := by have := (List.getElem?_eq_some_iff.1 hq).1; omega
            refine ⟨.string q, ?_, rfl⟩
            have h1 : (cur.toList.take es.length)[j]? = ((srtK es).map Value.string)[j]? := by rw [r4]
            rw [List.getElem?_take_of_lt hj, List.getElem?_map, hq, Array.getElem?_toList] at h1
            show cur[0 + j]? = _
            rw [Nat.zero_add]
            exact h1
          · intro _ j _ h
            exact absurd h.2 (by simp)) (by intro _; show (true = true → true = true); intro _; rfl)) rfl
        refine ⟨_, _, rfl, ?_, lt_new_sl, hnew, Ext.upd hn, Nat.le_succ _⟩
        show slrel (upd ρ n _ n) 0 es.length 1 _
        rw [upd_same]
        exact ⟨cap, 0, r1, ⟨by show 0 + cap * 1 ≤ cap; omega, fun _ => by show 0 + cap * 1 = cap; omega⟩, fun _ => rfl, rfl⟩
end Go.Sx

/- strings.Builder, wherever it lies: copyCheck, String. -/
set_option linter.unusedVariables false
set_option linter.unusedSimpArgs false
namespace Go.Proofs
open Go.Shelf Go.RowKit
variable {P : Program} {ρ : Ren}
set_option maxHeartbeats 1000000 in
set_option maxRecDepth 100000 in
theorem ck_used (L : Lays.n240 P ρ) (X : Builder.X72 P ρ) (b o : Nat) (w : World) (h0 : w.cell? ⟨b, o, none⟩ = some (.pointer (some ⟨b, o, none⟩))) :
    Calls P (ρ.f 240) #[.pointer (some ⟨b, o, none⟩)] w fun e w' => e = .returned (.tuple #[]) ∧ w' = w := by
  obtain ⟨j, hj, _⟩ := Option.map_eq_some_iff.1 X.sizeBuilder
  have mixed := L.mixed
  have t72 := L.t72; have a72 := L.a72; have z72 := L.z72; have v72 := L.v72; have u72 := run_underlying L.t72
  have t70 := L.t70; have a70 := L.a70; have z70 := L.z70; have v70 := L.v70; have u70 := run_underlying L.t70
  have t9 := L.t9; have a9 := L.a9; have z9 := L.z9; have v9 := L.v9; have u9 := run_underlying L.t9
  have t4 := L.t4; have a4 := L.a4; have z4 := L.z4; have v4 := L.v4; have u4 := run_underlying L.t4
  have t164 := L.t164; have a164 := L.a164; have z164 := L.z164; have v164 := L.v164; have u164 := run_underlying L.t164
  go_enter L.f240, Body.n240_ntmps ρ
  go_wp2
  rw [Lib.run_neq_ptr_same w _ L.t70 hj]
  go_wp2
  go_end0
  exact ⟨rfl, rfl⟩
set_option maxHeartbeats 1000000 in
set_option maxRecDepth 100000 in
theorem ck_fresh (L : Lays.n240 P ρ) (X : Builder.X72 P ρ) (b o T c : Nat) (w : World) (h0 : w.cell? ⟨b, o, none⟩ = some (.pointer none)) (hsh : w.shape? b = some (T, c)) (hoc : o < c) (hlies : liesAt P P.depth T (c / P.cellsOf T) o (ρ.t 72) 1 = true) (hfz : w.frozen? ⟨b, o, none⟩ = false) :
    Calls P (ρ.f 240) #[.pointer (some ⟨b, o, none⟩)] w fun e w' => e = .returned (.tuple #[]) ∧ w' = w.setCell ⟨b, o, none⟩ (.pointer (some ⟨b, o, none⟩)) := by
  obtain ⟨j, hj, hjs⟩ := Option.map_eq_some_iff.1 X.sizeBuilder
  have mixed := L.mixed
  have t72 := L.t72; have a72 := L.a72; have z72 := L.z72; have v72 := L.v72; have u72 := run_underlying L.t72
  have t70 := L.t70; have a70 := L.a70; have z70 := L.z70; have v70 := L.v70; have u70 := run_underlying L.t70
  have t9 := L.t9; have a9 := L.a9; have z9 := L.z9; have v9 := L.v9; have u9 := run_underlying L.t9
  have t4 := L.t4; have a4 := L.a4; have z4 := L.z4; have v4 := L.v4; have u4 := run_underlying L.t4
  have t164 := L.t164; have a164 := L.a164; have z164 := L.z164; have v164 := L.v164; have u164 := run_underlying L.t164
  go_enter L.f240, Body.n240_ntmps ρ
  go_wp2
  rw [Lib.run_to_unsafe w ⟨b, o, none⟩ L.t70 L.t164 hj (by rw [hjs]; decide) hsh hoc]
  simp only [Result.andThen]
  rw [Oper.upon_value]
  go_wp2
  rw [run_callFunc_extern L.f276 (by kernel_rfl) (by kernel_rfl) (by kernel_rfl) (e := Extern.AbiNoEscape.same) (by kernel_rfl)]
  rw [Lib.run_noEscape]
  simp only [Result.andThen]
  rw [Oper.upon_value]
  go_wp2
  rw [Lib.run_from_unsafe w ⟨b, o, none⟩ L.t164 L.t70 hj hsh hlies]
  simp only [Result.andThen]
  rw [Oper.upon_value]
  go_wp2
  go_end0
  exact ⟨rfl, rfl⟩
set_option maxHeartbeats 1000000 in
set_option maxRecDepth 100000 in
theorem str_some (L : Lays.n169 P ρ) (X : Builder.Extra P ρ) (b o g cap c : Nat) (l : List UInt8) (w : World) (h0 : l ≠ []) (k1 : w.cell? ⟨b, o + 1, none⟩ = some (.slice (some ⟨g, 0, none⟩) l.length cap)) (hcap : l.length ≤ cap) (hsh : w.shape? g = some (ρ.t 5, c)) (hlc : l.length ≤ c) (h63 : l.length ≤ 9223372036854775807)
    (hcell : ∀ j x, l[j]? = some x → w.cell? ((⟨g, 0, none⟩ : Addr).add j) = some (.int .u8 x.toNat)) :
    Calls P (ρ.f 169) #[.pointer (some ⟨b, o, none⟩)] w fun e w' => e = .returned (.string ⟨l.toArray⟩) ∧ w' = w.drew.freeze ⟨g, 0, none⟩ l.length := by
  have hl0 : l.length ≠ 0 := by simpa using h0
  have c1 : w.drew.cell? ⟨b, o + 1, none⟩ = some (.slice (some ⟨g, 0, none⟩) l.length cap) := k1
  have hSD : (Builtin.unsafeSliceData_ #[(ρ.t 37)] (ρ.t 127) #[.slice (some ⟨g, 0, none⟩) l.length cap]).run P w.drew = .ok (.pointer (some ⟨g, 0, none⟩)) w.drew :=
    Lib.run_unsafeSliceData_row _ _ _ _ _ _ (by omega)
  have hUS : (Builtin.unsafeString_ #[(ρ.t 127), (ρ.t 3)] (ρ.t 9) #[.pointer (some ⟨g, 0, none⟩), .int .i64 l.length]).run P w.drew = .ok (.string ⟨l.toArray⟩) (w.drew.freeze ⟨g, 0, none⟩ l.length) :=
    Lib.run_unsafeString_row w.drew (ρ.t 127) (ρ.t 3) (ρ.t 9) (ρ.t 5) L.t127 X.cellsByte g c hsh l h0 hlc h63 hcell
  have mixed := L.mixed
  have t72 := L.t72; have a72 := L.a72; have z72 := L.z72; have v72 := L.v72; have u72 := run_underlying L.t72
  have t70 := L.t70; have a70 := L.a70; have z70 := L.z70; have v70 := L.v70; have u70 := run_underlying L.t70
  have t37 := L.t37; have a37 := L.a37; have z37 := L.z37; have v37 := L.v37; have u37 := run_underlying L.t37
  have t127 := L.t127; have a127 := L.a127; have z127 := L.z127; have v127 := L.v127; have u127 := run_underlying L.t127
  have t3 := L.t3; have a3 := L.a3; have z3 := L.z3; have v3 := L.v3; have u3 := run_underlying L.t3
  have t9 := L.t9; have a9 := L.a9; have z9 := L.z9; have v9 := L.v9; have u9 := run_underlying L.t9
  have t5 := X.t5; have a5 := X.a5; have z5 := X.z5; have v5 := X.v5; have u5 := run_underlying X.t5
  go_enter L.f169, Body.n169_ntmps ρ
  go_wp2
  go_region_o
  all_goals (go_wp2; go_ret; exact ⟨rfl, rfl⟩)
end Go.Proofs

/- strings.Builder in the symbolic heap. -/
set_option linter.unusedVariables false
set_option linter.unusedSimpArgs false
namespace Go.Sx
open Go.Shelf Go.RowKit Go.Proofs
variable {P : Program} {σ : Ren} {H : Hp} {n : Nat}
theorem ck_fresh_S (L : Lays.n240 P σ) (X : Builder.X72 P σ) {i j o T c : Nat} {cs cs' : List SV} {s : SO} (hg : H.get i = some ⟨true, .sv cs⟩) (hc : cs[o]? = some (.v (.pointer none))) (hj : H.get j = some s) (hs : s.b = .mp (.shp i T (some c)))
    (hoc : o < c) (hlies : liesAt P P.depth T (c / P.cellsOf T) o (σ.t 72) 1 = true) (hcs : splice cs o [.ptr i o] = cs') :
    SpecAt P (σ.f 240) [.ptr i o] H n (.tup []) (H.put i ⟨true, .sv cs'⟩) n := by
  intro F w0 w ρ xs hH hz hl
  match xs, hz with
  | [x], ⟨⟨b, hb, hx⟩, _⟩ =>
    have hgh := hH.obj j s hj
    unfold ObjOK at hgh
    rw [hs] at hgh
    obtain ⟨h0, k, hk, hck⟩ := hgh.2 (by rw [hb]; simp)
    obtain rfl := hck c rfl
    obtain ⟨ca, fr, e1, e2⟩ := hH.shp i T c b hk hb
    rw [h0, Nat.zero_add] at hx
    subst hx
    have hr := obj_row hH hg (by simp)
    have hr' := hr
    simp only [RowOK, hb] at hr'
    obtain ⟨ca', T', fr', q1, q2, q3, q4, q5⟩ := hr'
    rw [e1] at q1; cases q1
    have holt : o < cs.length := (List.getElem?_eq_some_iff.1 hc).1
    obtain ⟨y, y1, y2⟩ := q4 o _ hc
    rw [h0, Nat.zero_add] at y1
    have y2 : y = .pointer none := y2
    subst y2
    have hfz : w.frozen? ⟨b, o, none⟩ = false := by
      have := q5 trivial o (by have : cs.length ≤ (ρ i).size := q3; omega)
      rw [h0, Nat.zero_add] at this
      simp only [World.frozen?, e1]
      simp; omega
    refine (ck_fresh L X b o T c w (by rw [cell_of e1, y1]) (by simp [World.shape?, e1, e2]) hoc hlies hfz).mono ?_
    rintro e w' ⟨rfl, rfl⟩
    have hidi := (hH.lt i _ hg).1
    have hz1 : All2 (crel ρ) [SV.ptr i o] [Value.pointer (some ⟨b, o, none⟩)] := ⟨⟨b, hb, by rw [h0, Nat.zero_add]⟩, trivial⟩
    obtain ⟨c2, T2, fr2, p1, p2, p3, p4⟩ := row_write hr hb o _ _ hz1 (by simp [Body.cells]; omega)
    rw [e1] at p1; cases p1
    rw [h0, Nat.zero_add] at p4
    rw [setCell_wset e1]
    refine ⟨_, ρ, rfl, ⟨[], rfl, trivial⟩, rfl, ?_, Ext.refl _ _, Nat.le_refl _⟩
    refine hH.write i _ ⟨true, .sv cs'⟩ hg rfl ?_ ?_ rfl rfl rfl (by simp [wset]) (fun q hq => wset_heap_ne _ _ _ _ (fun e => hq (by rw [hb, e]))) (wset_keep e1 (by simp))
    · have hlt := (hH.lt i _ hg).2
      simp only [Body.lt, List.all_eq_true] at hlt ⊢
      intro v hv
      rw [← hcs] at hv
      rcases mem_splice hv with h | h
      · exact hlt v h
      · rw [List.mem_singleton.1 h]; exact hidi
    · refine ObjOK.mk (by simp) ?_ ((obj_ex hH hg (by simp)).to rfl (fun _ => rfl))
      show RowOK _ _ _ true (Body.sv cs').cells
      rw [← hcs]; exact p4
theorem ck_used_S (L : Lays.n240 P σ) (X : Builder.X72 P σ) {i o : Nat} {cs : List SV} {s : SO} (hg : H.get i = some s) (hb' : s.b = .sv cs) (hc : cs[o]? = some (.ptr i o)) :
    SpecAt P (σ.f 240) [.ptr i o] H n (.tup []) H n := by
  intro F w0 w ρ xs hH hz hl
  match xs, hz with
  | [x], ⟨⟨b, hb, hx⟩, _⟩ =>
    subst hx
    have hr := obj_row hH hg (by rw [hb']; simp)
    rw [hb'] at hr
    simp only [RowOK, hb] at hr
    obtain ⟨ca', T', fr', q1, q2, q3, q4, q5⟩ := hr
    obtain ⟨y, y1, y2⟩ := q4 o _ hc
    obtain ⟨b2, hb2, y3⟩ := (y2 : arel ρ (.ptr i o) y)
    rw [hb] at hb2; cases hb2
    subst y3
    refine (ck_used L X b ((ρ i).off + o) w (by rw [cell_of q1, y1])).mono ?_
    rintro e w' ⟨rfl, rfl⟩
    exact ⟨_, ρ, rfl, ⟨[], rfl, trivial⟩, rfl, hH, Ext.refl _ _, Nat.le_refl _⟩
theorem str_some_S (L : Lays.n169 P σ) (X : Builder.Extra P σ) {i o r k q : Nat} {cs : List SV} {s t : SO} {bs : List Int} (hg : H.get i = some s) (hb' : s.b = .sv cs) (hc : cs[o + 1]? = some (.sl r 0 k 1)) (hr : H.get r = some ⟨true, .ints .u8 bs⟩)
    (hk : k = bs.length) (hk0 : k ≠ 0) (hk1 : k ≤ 9223372036854775807) (hq : H.get q = some t) (ht : t.b = .mp (.shp r (σ.t 5) none)) (hby : ∀ y ∈ bs, 0 ≤ y ∧ y ≤ 255) :
    SpecAt P (σ.f 169) [.ptr i o] H n (.v (.string (tx bs))) (H.put r ⟨false, .ints .u8 bs⟩) n := by
  intro F w0 w ρ xs hH hz hl
  match xs, hz with
  | [x], ⟨⟨b, hb, hx⟩, _⟩ =>
    subst hx
    have hri := obj_row hH hg (by rw [hb']; simp)
    rw [hb'] at hri
    simp only [RowOK, hb] at hri
    obtain ⟨ca', T', fr', q1, q2, q3, q4, q5⟩ := hri
    obtain ⟨y, y1, y2⟩ := q4 (o + 1) _ hc
    have y2 : slrel (ρ r) 0 k 1 y := y2
    cases hbr : (ρ r).blk with
    | none => simp only [slrel, hbr] at y2; exact absurd y2.1 hk0
    | some g =>
      simp only [slrel, hbr] at y2
      obtain ⟨cap, a, z1, z2, z3, z4⟩ := y2
      have hgh := hH.obj q t hq
      unfold ObjOK at hgh
      rw [ht] at hgh
      obtain ⟨h0, c, hsh, _⟩ := hgh.2 (by rw [hbr]; simp)
      have ha := z3 (by omega)
      rw [h0] at ha
      subst ha
      subst z4
      obtain ⟨ca, fr, e1, e2⟩ := hH.shp r _ c g hsh hbr
      have hrr := obj_row hH hr (by simp)
      have hrr' := hrr
      simp only [RowOK, hbr] at hrr
      obtain ⟨ca2, T2, fr2, p1, p2, p3, p4, p5⟩ := hrr
      rw [e1] at p1; cases p1
      have hl1 : (tx bs).data.toList.length = bs.length := by
        have := tx_sz bs
        exact this
      have hcell : ∀ j x, (tx bs).data.toList[j]? = some x → w.cell? ((⟨g, 0, none⟩ : Addr).add j) = some (.int .u8 x.toNat) := by
        intro j x hx
        have hj : j < bs.length := by rw [← hl1]; exact (List.getElem?_eq_some_iff.1 hx).1
        have hx2 : x = UInt8.ofNat (bs[j]).toNat := by
          simp [tx, hj] at hx
          exact hx.symm
        obtain ⟨v, v1, v2⟩ := p4 j (.v (.int .u8 bs[j])) (by simp [Body.cells, hj])
        have v2 : v = .int .u8 bs[j] := v2
        rw [h0, Nat.zero_add] at v1
        have hb2 := hby bs[j] (List.getElem_mem hj)
        rw [add_plain, Nat.zero_add, cell_of e1, v1, v2, hx2]
        congr 2
        have : (UInt8.ofNat (bs[j]).toNat).toNat = (bs[j]).toNat := by
          rw [UInt8.toNat_ofNat']; omega
        omega
      have hbl : bs.length ≤ ca.size := by
        have h1 : bs.length ≤ (ρ r).size := by simpa [Body.cells] using p3
        omega
      have hrun := str_some L X b ((ρ i).off + o) g cap c (tx bs).data.toList w (fun e => by rw [e] at hl1; simp at hl1; omega) (by rw [cell_of q1, Nat.add_assoc, y1, hl1, hk]) (by omega) (by simp [World.shape?, e1, e2]) (by omega) (by omega) hcell
      refine hrun.mono ?_
      rintro e w' ⟨rfl, rfl⟩
      refine ⟨_, ρ, rfl, rfl, rfl, ?_, Ext.refl _ _, Nat.le_refl _⟩
      have hD := hH.drew
      obtain ⟨fr3, hnew⟩ : ∃ fr3, (w.drew.freeze ⟨g, 0, none⟩ (tx bs).data.toList.length).heap[g]? = some (.cells ca (σ.t 5) fr3) := by
        unfold World.freeze
        rw [if_neg (by omega)]
        have e1' : w.drew.heap[g]? = some (.cells ca (σ.t 5) fr) := e1
        obtain ⟨lo, hi⟩ := fr
        exact ⟨_, by rw [Array.getElem?_modify, if_pos rfl, e1']; rfl⟩
      have hoth : ∀ m, m ≠ g → (w.drew.freeze ⟨g, 0, none⟩ (tx bs).data.toList.length).heap[m]? = w.drew.heap[m]? := by
        intro m hm
        unfold World.freeze
        rw [if_neg (by omega)]
        show (w.drew.heap.modify g _)[m]? = _
        rw [Array.getElem?_modify, if_neg (Ne.symm hm)]
      refine hD.write r _ ⟨false, .ints .u8 bs⟩ hr rfl rfl ?_ ?_ ?_ ?_ ?_ (fun m hm => hoth m (fun e => hm (by rw [hbr, e]))) (ShKeep.of_one (b := g) (c := ca) (c' := ca) (T := σ.t 5) (fr := fr) (fr' := fr3) e1 hnew rfl hoth)
      · refine ObjOK.mk (by simp) ?_ ((obj_ex hH hr (by simp)).to rfl (fun h => by cases h))
        simp only [RowOK, hbr]
        exact ⟨ca, _, fr3, hnew, p2, p3, p4, fun h => by cases h⟩
      all_goals (unfold World.freeze; rw [if_neg (by omega)])
      simp
end Go.Sx

/- maps.Clone, maps.Keys, slices.Sorted at this program. -/
set_option linter.unusedVariables false
set_option linter.unusedSimpArgs false
set_option maxRecDepth 100000
namespace Go.Proofs
open Go.Shelf Go.RowKit Go.Sx
def layZ_ren : Go.Shelf.Ren := ⟨fun | 6 => 76 | 8 => 90 | 9 => 91 | 11 => 96 | 13 => 98 | 12 => 97 | 23 => 108 | 24 => 109 | 14 => 99 | 15 => 100 | 16 => 101 | 17 => 102 | 18 => 103 | 19 => 104 | 20 => 105 | 21 => 106 | 22 => 107 | 25 => 110 | 26 => 111 | 27 => 112 | 28 => 113 | 29 => 114 | 30 => 115 | 31 => 116 | 7 => 77 | 10 => 92 | n => n, fun | 26 => 9 | 28 => 137 | 24 => 89 | 0 => 0 | 3 => 81 | 37 => 144 | 48 => 162 | 50 => 134 | 4 => 4 | 40 => 154 | 39 => 153 | 45 => 159 | 5 => 5 | 9 => 9 | 51 => 164 | 55 => 168 | 57 => 170 | 58 => 171 | 33 => 63 | 23 => 65 | 27 => 136 | n => n, fun n => n⟩
theorem layS : SlLaysZ.n6 Tryz.prog layZ_ren where
  mixed := by kernel_rfl
  f6 := ⟨Tryz.f76.name, by kernel_rfl, Tryz.func76.trans (congrArg some (by kernel_rfl))⟩
  f8 := ⟨Tryz.f90.name, by kernel_rfl, Tryz.func90.trans (congrArg some (by kernel_rfl))⟩
  f11 := ⟨Tryz.f96.name, by kernel_rfl, Tryz.func96.trans (congrArg some (by kernel_rfl))⟩
  t0 := Tryz.underlying0
  a0 := Tryz.isAgg0
  z0 := Tryz.sizeOf0
  v0 := Tryz.zeroValue0
  t24 := Tryz.underlying89
  a24 := Tryz.isAgg89
  z24 := Tryz.sizeOf89
  v24 := Tryz.zeroValue89
  t26 := Tryz.underlying9
  a26 := Tryz.isAgg9
  z26 := Tryz.sizeOf9
  v26 := Tryz.zeroValue9
  t28 := Tryz.underlying137
  a28 := Tryz.isAgg137
  z28 := Tryz.sizeOf137
  v28 := Tryz.zeroValue137
  i26 := by kernel_rfl
theorem layK : SlLaysZ.n7 Tryz.prog layZ_ren where
  mixed := by kernel_rfl
  f7 := ⟨Tryz.f77.name, by kernel_rfl, Tryz.func77.trans (congrArg some (by kernel_rfl))⟩
  f10 := ⟨Tryz.f92.name, by kernel_rfl, Tryz.func92.trans (congrArg some (by kernel_rfl))⟩
  t0 := Tryz.underlying0
  a0 := Tryz.isAgg0
  z0 := Tryz.sizeOf0
  v0 := Tryz.zeroValue0
  t4 := Tryz.underlying4
  a4 := Tryz.isAgg4
  z4 := Tryz.sizeOf4
  v4 := Tryz.zeroValue4
  t23 := Tryz.underlying65
  a23 := Tryz.isAgg65
  z23 := Tryz.sizeOf65
  v23 := Tryz.zeroValue65
  t26 := Tryz.underlying9
  a26 := Tryz.isAgg9
  z26 := Tryz.sizeOf9
  v26 := Tryz.zeroValue9
  t27 := Tryz.underlying136
  a27 := Tryz.isAgg136
  z27 := Tryz.sizeOf136
  v27 := Tryz.zeroValue136
  t28 := Tryz.underlying137
  a28 := Tryz.isAgg137
  z28 := Tryz.sizeOf137
  v28 := Tryz.zeroValue137
  t33 := Tryz.underlying63
  a33 := Tryz.isAgg63
  z33 := Tryz.sizeOf63
  v33 := Tryz.zeroValue63
theorem layK1 : SlLaysZ.n10 Tryz.prog layZ_ren where
  mixed := by kernel_rfl
  f10 := ⟨Tryz.f92.name, by kernel_rfl, Tryz.func92.trans (congrArg some (by kernel_rfl))⟩
  t0 := Tryz.underlying0
  a0 := Tryz.isAgg0
  z0 := Tryz.sizeOf0
  v0 := Tryz.zeroValue0
  t4 := Tryz.underlying4
  a4 := Tryz.isAgg4
  z4 := Tryz.sizeOf4
  v4 := Tryz.zeroValue4
  t23 := Tryz.underlying65
  a23 := Tryz.isAgg65
  z23 := Tryz.sizeOf65
  v23 := Tryz.zeroValue65
  t26 := Tryz.underlying9
  a26 := Tryz.isAgg9
  z26 := Tryz.sizeOf9
  v26 := Tryz.zeroValue9
  t33 := Tryz.underlying63
  a33 := Tryz.isAgg63
  z33 := Tryz.sizeOf63
  v33 := Tryz.zeroValue63
def layC_ren : Go.Shelf.Ren := ⟨fun | 5 => 39 | 7 => 61 | n => n, fun | 23 => 65 | 25 => 9 | 3 => 81 | 4 => 4 | 20 => 20 | n => n, fun n => n⟩
theorem layC : SlLaysW.n5 Tryz.prog layC_ren where
  mixed := by kernel_rfl
  f5 := ⟨Tryz.f39.name, by kernel_rfl, Tryz.func39.trans (congrArg some (by kernel_rfl))⟩
  f7 := Tryz.func61.trans (congrArg some (by kernel_rfl))
  t4 := Tryz.underlying4
  a4 := Tryz.isAgg4
  z4 := Tryz.sizeOf4
  v4 := Tryz.zeroValue4
  t20 := Tryz.underlying20
  a20 := Tryz.isAgg20
  z20 := Tryz.sizeOf20
  v20 := Tryz.zeroValue20
  t23 := Tryz.underlying65
  a23 := Tryz.isAgg65
  z23 := Tryz.sizeOf65
  v23 := Tryz.zeroValue65
def laySo_ren : Go.Shelf.Ren := ⟨fun | 6 => 91 | 8 => 98 | 9 => 97 | 19 => 108 | 20 => 109 | 21 => 99 | 22 => 100 | 23 => 101 | 24 => 102 | 25 => 103 | 26 => 104 | 27 => 105 | 28 => 106 | 29 => 107 | 36 => 110 | 31 => 111 | 32 => 112 | 37 => 113 | 38 => 114 | 39 => 115 | 41 => 116 | n => n, fun | 27 => 89 | 29 => 9 | 3 => 3 | 32 => 144 | 26 => 89 | 0 => 0 | 44 => 162 | 46 => 134 | 4 => 4 | 36 => 154 | 35 => 153 | 41 => 159 | 5 => 5 | 9 => 9 | 53 => 164 | 57 => 168 | 63 => 170 | 64 => 171 | n => n, fun n => n⟩
theorem laySo : SlLaysM.n6 Tryz.prog laySo_ren where
  mixed := by kernel_rfl
  f6 := ⟨Tryz.f91.name, by kernel_rfl, Tryz.func91.trans (congrArg some (by kernel_rfl))⟩
  f8 := Tryz.func98.trans (congrArg some (by kernel_rfl))
  f9 := ⟨Tryz.f97.name, by kernel_rfl, Tryz.func97.trans (congrArg some (by kernel_rfl))⟩
  f19 := Tryz.func108.trans (congrArg some (by kernel_rfl))
  f20 := Tryz.func109.trans (congrArg some (by kernel_rfl))
  f21 := ⟨Tryz.f99.name, by kernel_rfl, Tryz.func99.trans (congrArg some (by kernel_rfl))⟩
  f22 := ⟨Tryz.f100.name, by kernel_rfl, Tryz.func100.trans (congrArg some (by kernel_rfl))⟩
  f23 := ⟨Tryz.f101.name, by kernel_rfl, Tryz.func101.trans (congrArg some (by kernel_rfl))⟩
  f24 := ⟨Tryz.f102.name, by kernel_rfl, Tryz.func102.trans (congrArg some (by kernel_rfl))⟩
  f25 := ⟨Tryz.f103.name, by kernel_rfl, Tryz.func103.trans (congrArg some (by kernel_rfl))⟩
  f26 := ⟨Tryz.f104.name, by kernel_rfl, Tryz.func104.trans (congrArg some (by kernel_rfl))⟩
  f27 := ⟨Tryz.f105.name, by kernel_rfl, Tryz.func105.trans (congrArg some (by kernel_rfl))⟩
  f28 := ⟨Tryz.f106.name, by kernel_rfl, Tryz.func106.trans (congrArg some (by kernel_rfl))⟩
  f29 := ⟨Tryz.f107.name, by kernel_rfl, Tryz.func107.trans (congrArg some (by kernel_rfl))⟩
  f31 := Tryz.func111.trans (congrArg some (by kernel_rfl))
  f32 := Tryz.func112.trans (congrArg some (by kernel_rfl))
  f36 := ⟨Tryz.f110.name, by kernel_rfl, Tryz.func110.trans (congrArg some (by kernel_rfl))⟩
  f37 := ⟨Tryz.f113.name, by kernel_rfl, Tryz.func113.trans (congrArg some (by kernel_rfl))⟩
  f38 := ⟨Tryz.f114.name, by kernel_rfl, Tryz.func114.trans (congrArg some (by kernel_rfl))⟩
  f39 := ⟨Tryz.f115.name, by kernel_rfl, Tryz.func115.trans (congrArg some (by kernel_rfl))⟩
  f41 := ⟨Tryz.f116.name, by kernel_rfl, Tryz.func116.trans (congrArg some (by kernel_rfl))⟩
  t0 := Tryz.underlying0
  a0 := Tryz.isAgg0
  z0 := Tryz.sizeOf0
  v0 := Tryz.zeroValue0
  t3 := Tryz.underlying3
  a3 := Tryz.isAgg3
  z3 := Tryz.sizeOf3
  v3 := Tryz.zeroValue3
  t4 := Tryz.underlying4
  a4 := Tryz.isAgg4
  z4 := Tryz.sizeOf4
  v4 := Tryz.zeroValue4
  t5 := Tryz.underlying5
  a5 := Tryz.isAgg5
  z5 := Tryz.sizeOf5
  v5 := Tryz.zeroValue5
  t9 := Tryz.underlying9
  a9 := Tryz.isAgg9
  z9 := Tryz.sizeOf9
  v9 := Tryz.zeroValue9
  t26 := Tryz.underlying89
  a26 := Tryz.isAgg89
  z26 := Tryz.sizeOf89
  v26 := Tryz.zeroValue89
  t27 := Tryz.underlying89
  a27 := Tryz.isAgg89
  z27 := Tryz.sizeOf89
  v27 := Tryz.zeroValue89
  t29 := Tryz.underlying9
  a29 := Tryz.isAgg9
  z29 := Tryz.sizeOf9
  v29 := Tryz.zeroValue9
  t32 := Tryz.underlying144
  a32 := Tryz.isAgg144
  z32 := Tryz.sizeOf144
  v32 := Tryz.zeroValue144
  t35 := Tryz.underlying153
  a35 := Tryz.isAgg153
  z35 := Tryz.sizeOf153
  v35 := Tryz.zeroValue153
  t36 := Tryz.underlying154
  a36 := Tryz.isAgg154
  z36 := Tryz.sizeOf154
  v36 := Tryz.zeroValue154
  t41 := Tryz.underlying159
  a41 := Tryz.isAgg159
  z41 := Tryz.sizeOf159
  v41 := Tryz.zeroValue159
  t44 := Tryz.underlying162
  a44 := Tryz.isAgg162
  z44 := Tryz.sizeOf162
  v44 := Tryz.zeroValue162
  t46 := Tryz.underlying134
  a46 := Tryz.isAgg134
  z46 := Tryz.sizeOf134
  v46 := Tryz.zeroValue134
  t53 := Tryz.underlying164
  a53 := Tryz.isAgg164
  z53 := Tryz.sizeOf164
  v53 := Tryz.zeroValue164
  t57 := Tryz.underlying168
  a57 := Tryz.isAgg168
  z57 := Tryz.sizeOf168
  v57 := Tryz.zeroValue168
  t63 := Tryz.underlying170
  a63 := Tryz.isAgg170
  z63 := Tryz.sizeOf170
  v63 := Tryz.zeroValue170
  t64 := Tryz.underlying171
  a64 := Tryz.isAgg171
  z64 := Tryz.sizeOf171
  v64 := Tryz.zeroValue171
theorem sortsZ (m : Nat) : AnyZ.SortsIn Tryz.prog layZ_ren Fence.wide m :=
  ⟨fun blk off cap ss W hH hblk hsz => callsIn_wide.2 (AnyM.slices_Sort_string laySo blk off cap ss W hH hblk hsz), fun p cap W => callsIn_wide.2 (AnyM.slices_Sort_string_none laySo p cap W)⟩
variable {H : Hp} {n : Nat}
theorem cloneT {i : Nat} {es : List (Value × Value)} {s : SO} (hg : H.get i = some s) (hb : s.b = .mp (.map es)) (hn : n < 1000) :
    SpecAt Tryz.prog 39 [.mp i] H n (.mp n) (H.put n ⟨true, .mp (.map es)⟩) (n + 1) := clone_S layC hg hb hn
theorem keysT {i : Nat} {s : SO} (hg : H.get i = some s) (hn : n + 1 < 1000) :
    SpecAt Tryz.prog 77 [.mp i] H n (.fn 92 [.ptr n 0]) ((H.put n ⟨true, .sv [.mp i]⟩).put (n + 1) ⟨false, .mp (.shp n 65 (some 1))⟩) (n + 2) := keys_S layK hg hn
theorem sortedT {i j k : Nat} {es : List (Value × Value)} {s u t : SO} {T : Nat} {c0 : Option Nat} (hk : H.get k = some u) (hub : u.b = .sv [.mp i]) (hgh : H.get j = some t) (htb : t.b = .mp (.shp k T c0)) (hg : H.get i = some s) (hb : s.b = .mp (.map es))
    (hkeys : keysS es = true) (hsz : ∀ e ∈ es, (keyB e).length ≤ maxLen) (hlen : es.length ≤ 1000000) (hn : n < 1000) :
    SpecAt Tryz.prog 76 [.fn 92 [.ptr k 0]] H n (.sl n 0 es.length 1) (H.put n ⟨true, .strs (srtK es)⟩) (n + 1) :=
  sorted_S layS layK1 sortsZ (laySo.f6.enters rfl) (layK1.f10.enters rfl) hk hub hgh htb hg hb hkeys hsz hlen hn
end Go.Proofs

/- strings.Builder at this program. -/
set_option linter.unusedVariables false
set_option linter.unusedSimpArgs false
set_option maxRecDepth 100000
namespace Go.Proofs
open Go.Shelf Go.RowKit Go.Sx
def layCk_ren : Go.Shelf.Ren := ⟨fun | 240 => 81 | 276 => 95 | n => n, fun | 0 => 0 | 4 => 4 | 9 => 9 | 20 => 20 | 70 => 118 | 72 => 120 | 164 => 147 | 5 => 5 | 37 => 73 | n => n, fun n => n⟩
theorem layCk : Lays.n240 Tryz.prog layCk_ren where
  mixed := by kernel_rfl
  f240 := Tryz.func81.trans (congrArg some (by kernel_rfl))
  f276 := Tryz.func95.trans (congrArg some (by kernel_rfl))
  t0 := Tryz.underlying0
  a0 := Tryz.isAgg0
  z0 := Tryz.sizeOf0
  v0 := Tryz.zeroValue0
  t4 := Tryz.underlying4
  a4 := Tryz.isAgg4
  z4 := Tryz.sizeOf4
  v4 := Tryz.zeroValue4
  t9 := Tryz.underlying9
  a9 := Tryz.isAgg9
  z9 := Tryz.sizeOf9
  v9 := Tryz.zeroValue9
  t20 := Tryz.underlying20
  a20 := Tryz.isAgg20
  z20 := Tryz.sizeOf20
  v20 := Tryz.zeroValue20
  t70 := Tryz.underlying118
  a70 := Tryz.isAgg118
  z70 := Tryz.sizeOf118
  v70 := Tryz.zeroValue118
  t72 := Tryz.underlying120
  a72 := Tryz.isAgg120
  z72 := Tryz.sizeOf120
  v72 := Tryz.zeroValue120
  t164 := Tryz.underlying147
  a164 := Tryz.isAgg147
  z164 := Tryz.sizeOf147
  v164 := Tryz.zeroValue147
theorem layCk_extra : Builder.X72 Tryz.prog layCk_ren where
  sizeBuilder := by kernel_rfl
  liesBuilder := by kernel_rfl
def layStr_ren : Go.Shelf.Ren := ⟨fun | 169 => 68 | n => n, fun | 70 => 118 | 9 => 9 | 0 => 0 | 72 => 120 | 37 => 73 | 127 => 143 | 3 => 3 | 5 => 5 | n => n, fun n => n⟩
theorem layStr : Lays.n169 Tryz.prog layStr_ren where
  mixed := by kernel_rfl
  f169 := Tryz.func68.trans (congrArg some (by kernel_rfl))
  t0 := Tryz.underlying0
  a0 := Tryz.isAgg0
  z0 := Tryz.sizeOf0
  v0 := Tryz.zeroValue0
  t3 := Tryz.underlying3
  a3 := Tryz.isAgg3
  z3 := Tryz.sizeOf3
  v3 := Tryz.zeroValue3
  t9 := Tryz.underlying9
  a9 := Tryz.isAgg9
  z9 := Tryz.sizeOf9
  v9 := Tryz.zeroValue9
  t37 := Tryz.underlying73
  a37 := Tryz.isAgg73
  z37 := Tryz.sizeOf73
  v37 := Tryz.zeroValue73
  t70 := Tryz.underlying118
  a70 := Tryz.isAgg118
  z70 := Tryz.sizeOf118
  v70 := Tryz.zeroValue118
  t72 := Tryz.underlying120
  a72 := Tryz.isAgg120
  z72 := Tryz.sizeOf120
  v72 := Tryz.zeroValue120
  t127 := Tryz.underlying143
  a127 := Tryz.isAgg143
  z127 := Tryz.sizeOf143
  v127 := Tryz.zeroValue143
theorem layStr_extra : Builder.Extra Tryz.prog layStr_ren where
  sizeBuilder := by kernel_rfl
  liesBuilder := by kernel_rfl
  t5 := Tryz.underlying5
  a5 := Tryz.isAgg5
  z5 := Tryz.sizeOf5
  v5 := Tryz.zeroValue5
  infoByte := by kernel_rfl
  cellsByte := by kernel_rfl
  sizeByte := by kernel_rfl
  neB5 := by decide
theorem ckF {i j : Nat} {H : Hp} {n : Nat} {s : SO} {v : SV} (hg : H.get i = some ⟨true, .sv [.v (.pointer none), v]⟩) (hj : H.get j = some s) (hs : s.b = .mp (.shp i 120 (some 2))) :
    SpecAt Tryz.prog 81 [.ptr i 0] H n (.tup []) (H.put i ⟨true, .sv [.ptr i 0, v]⟩) n :=
  ck_fresh_S layCk layCk_extra (o := 0) hg rfl hj hs (by decide) layCk_extra.liesBuilder rfl
theorem ckU {i : Nat} {H : Hp} {n : Nat} {s : SO} {v : SV} (hg : H.get i = some s) (hs : s.b = .sv [.ptr i 0, v]) :
    SpecAt Tryz.prog 81 [.ptr i 0] H n (.tup []) H n :=
  ck_used_S layCk layCk_extra (o := 0) hg hs rfl
theorem strS {i r k q : Nat} {H : Hp} {n : Nat} {s t : SO} {v : SV} {bs : List Int} (hg : H.get i = some s) (hb : s.b = .sv [v, .sl r 0 k 1]) (hr : H.get r = some ⟨true, .ints .u8 bs⟩) (hk : k = bs.length) (hk0 : k ≠ 0) (hk1 : k ≤ 9223372036854775807)
    (hq : H.get q = some t) (ht : t.b = .mp (.shp r 5 none)) (hby : ∀ y ∈ bs, 0 ≤ y ∧ y ≤ 255) : SpecAt Tryz.prog 68 [.ptr i 0] H n (.v (.string (tx bs))) (H.put r ⟨false, .ints .u8 bs⟩) n :=
  str_some_S layStr layStr_extra (o := 0) hg hb rfl hr hk hk0 hk1 hq ht hby
end Go.Proofs
