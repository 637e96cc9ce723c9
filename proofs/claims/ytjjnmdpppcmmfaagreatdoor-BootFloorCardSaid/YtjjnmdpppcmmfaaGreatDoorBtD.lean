/- maps.Clone, maps.Keys, slices.Sorted at a map's keys, by the shelf, in the symbolic heap. -/
import Derived.Test.YtjjnmdpppcmmfaaGreatDoorSxC
import Derived.Shelf.SlMaps.Clone
import Derived.Shelf.SlIter.Sorted
import Derived.Shelf.SortM.Plain
import Derived.Shelf.SortM.SortNone
import Derived.Test.YtjjnmdpppcmmfaaGreatDoorChecked
import Derived.Shelf.Strings.BuilderF
import Derived.Test.YtjjnmdpppcmmfaaGreatDoorBtB
import Derived.Test.YtjjnmdpppcmmfaaGreatDoorBtC
import Derived.Laws.Strings

set_option linter.unusedVariables false
set_option linter.unusedSimpArgs false
namespace Go.Sx
open Go.Shelf Go.RowKit Go.Proofs Go.Maps Go.MapKept Go.WideElems
variable {P : Program} {σ : Go.Shelf.Ren} {H : Hp} {n : Nat}
theorem clone_S (L : SlLaysW.n5 P σ) {i : Nat} {es : List (Value × Value)} {s : SO} (hg : H.get i = some s) (hb : s.b = .mp (.map es)) (hn : n < 1000) :
    SpecAt P (σ.f 5) [.mp i] H n (.mp n) (H.put n ⟨true, .mp (.map es)⟩) (n + 1) := by
  intro F w0 w ρ xs hH hz hl
  match xs, hz with
  | [x], ⟨⟨b, hbl, hx⟩, _⟩ =>
    subst hx
    obtain ⟨b', ents, clk, e1, e2, e3, e4⟩ := map_obj hH hg hb
    rw [hbl] at e1; cases e1
    refine (AnyW.maps_Clone L b ents clk w e2).mono ?_
    rintro e w' ⟨rfl, rfl⟩
    have hnew := hH.alloc hn (.map ents clk) ⟨true, .mp (.map es)⟩ ⟨some w.heap.size, 0, 0, false, none⟩ rfl rfl ⟨_, ents, clk, rfl, heap_alloc_new w _, e3, e4⟩
    exact ⟨_, _, rfl, ⟨w.heap.size, by rw [upd_same], rfl⟩, by show idOK (n + 1) n = true; unfold idOK; simp, hnew, Ext.upd hn, Nat.le_succ _⟩
theorem keys_S (L : SlLaysZ.n7 P σ) {i : Nat} {s : SO} (hg : H.get i = some s) (hn : n + 1 < 1000) :
    SpecAt P (σ.f 7) [.mp i] H n (.fn (σ.f 10) [.ptr n 0]) ((H.put n ⟨true, .sv [.mp i]⟩).put (n + 1) ⟨false, .mp (.shp n (σ.t 23) (some 1))⟩) (n + 2) := by
  intro F w0 w ρ xs hH hz hl
  match xs, hz with
  | [x], ⟨hxr, _⟩ =>
    have hxr : arel ρ (.mp i) x := hxr
    obtain ⟨b, hbl, hx⟩ := hxr
    subst hx
    refine ((callsIn_wide (n := 6)).1 (AnyZ.keys_in L Fence.wide 6 trivial rfl (some b) w)).mono ?_
    rintro e w' ⟨rfl, rfl⟩
    have hid := (hH.lt i s hg).1
    obtain ⟨ρ', h1, h2, h3, h4⟩ := hH.newValsT hn (σ.t 23) [.map (some b)] (.sv [.mp i]) (by simp) (by simp [Body.lt, ltC, ltB, ltA, hid]) ⟨⟨b, hbl, rfl⟩, trivial⟩
    refine ⟨_, ρ', rfl, ?_, ?_, h1, h2, by omega⟩
    · exact ⟨[.pointer (some ⟨w.heap.size, 0, none⟩)], rfl, ⟨w.heap.size, h3, by rw [h4]⟩, trivial⟩
    · simp [ltT, ltC, ltB, ltA, idOK]
def keyB (e : Value × Value) : List UInt8 := match e.1 with
  | .string s => s.data.toList
  | _ => []
def srtK (es : List (Value × Value)) : List ByteArray := ((es.map keyB).mergeSort fun x y => decide (x ≤ y)).map fun l => ⟨⟨l⟩⟩
theorem HRel.addNew {F : Nat → Prop} {w0 w w' : World} {ρ : Nat → Loc} (h : HRel F w0 ρ n H w) (hb : Below w.heap.size w w') (hn : n < 1000) (s : SO) (l : Loc)
    (hbl : ∀ b, l.blk = some b → w.heap.size ≤ b ∧ b < w'.heap.size) (hlt : s.b.lt n = true) (hok : ObjOK ρ w' l s) (hsh : l.sh = none) : HRel F w0 (upd ρ n l) (n + 1) (H.put n s) w' := by
  have h' := h.below hb
  have hx : Ext n ρ (upd ρ n l) := Ext.upd hn
  have hr : ∀ i, i ≠ n → upd ρ n l i = ρ i := fun i hi => by simp [upd, hi]
  refine ⟨h'.os, h'.tape, h'.output, h'.size, h'.keep, h'.old, ?_, by omega, ?_, ?_, ?_, ?_, ?_, h'.xput hn, h'.shp.upd fun T c b e1 _ => (by rw [hsh] at e1; cases e1), h'.shk, h'.gl.upd hn⟩
  · rw [hr 0 (by have := h.pos; omega)]; exact h.nil
  · intro i s' hi
    rw [Hp.get_put] at hi
    split at hi
    · rename_i e; subst e; cases hi
      rw [upd_same]; exact ObjOK.ext hx hlt hok
    · rename_i e
      rw [hr i (Ne.symm e)]
      exact ObjOK.ext hx (h'.lt i s' hi).2 (h'.obj i s' hi)
  · intro i s' hi
    rw [Hp.get_put] at hi
    split at hi
    · rename_i e; subst e; cases hi
      exact ⟨by unfold idOK; simp, Body.lt_mono (Nat.le_succ _) hlt⟩
    · exact ⟨idOK_mono (Nat.le_succ _) (h.lt i s' hi).1, Body.lt_mono (Nat.le_succ _) (h.lt i s' hi).2⟩
  · intro i s' b hi hw hbk hF
    rw [Hp.get_put] at hi
    split at hi
    · rename_i e; subst e; rw [upd_same] at hbk
      have h1 := hbl b hbk
      have := h.old _ hF; have := h.size; omega
    · rename_i e
      rw [hr i (Ne.symm e)] at hbk
      exact h.own i s' b hi hw hbk hF
  · intro i j s1 s2 b hij hi hj hw hbk hbk'
    rw [Hp.get_put] at hi hj
    split at hi
    · rename_i e; subst e
      rw [if_neg hij] at hj
      rw [upd_same] at hbk
      rw [hr j (Ne.symm hij)] at hbk'
      have h1 := hbl b hbk
      have := h.live j s2 _ hj hbk'; omega
    · rename_i e
      rw [hr i (Ne.symm e)] at hbk
      split at hj
      · rename_i e'; subst e'; rw [upd_same] at hbk'
        have h1 := hbl b hbk'
        have := h.live i s1 _ hi hbk; omega
      · rename_i e'
        rw [hr j (Ne.symm e')] at hbk'
        exact h.inj i j s1 s2 b hij hi hj hw hbk hbk'
  · intro i s' b hi hbk
    rw [Hp.get_put] at hi
    split at hi
    · rename_i e; subst e; rw [upd_same] at hbk; exact (hbl b hbk).2
    · rename_i e
      rw [hr i (Ne.symm e)] at hbk
      exact h'.live i s' b hi hbk
theorem keyB_rg {k : TypeId} (hk : P.underlying k = some .string) {x : MapEntry} {s : ByteArray} (hx : x.key = .string s) (hs : s.size ≤ maxLen) :
    rd (H := Unit) P k (fun _ => some (.nil, [])) x = some (.string s.data.toList, .nil) := by
  have h1 : keyOf P k x.key = some (.string s.data.toList) := by
    rw [hx]
    simp [keyOf, mapKey, hk, hs]
  simp [rd, h1]
theorem sorted_S (L6 : SlLaysZ.n6 P σ) (L10 : SlLaysZ.n10 P σ) (hsort : ∀ m, AnyZ.SortsIn P σ Fence.wide m) (e9 : ∀ args w, (callFunc (σ.f 9) args).run P w = .ok (.enter (σ.f 9) args) w) (e10 : ∀ args w, (callFunc (σ.f 10) args).run P w = .ok (.enter (σ.f 10) args) w)
    {i j k : Nat} {es : List (Value × Value)} {s u t : SO} {T : Nat} {c0 : Option Nat} (hk : H.get k = some u) (hub : u.b = .sv [.mp i]) (hgh : H.get j = some t) (htb : t.b = .mp (.shp k T c0)) (hg : H.get i = some s) (hb : s.b = .mp (.map es))
    (hkeys : keysS es = true) (hsz : ∀ e ∈ es, (keyB e).length ≤ maxLen) (hlen : es.length ≤ 1000000) (hn : n < 1000) :
    SpecAt P (σ.f 6) [.fn (σ.f 10) [.ptr k 0]] H n (.sl n 0 es.length 1) (H.put n ⟨true, .strs (srtK es)⟩) (n + 1) := by
  intro F w0 w ρ xs hH hz hl
  match xs, hz with
  | [x], ⟨hxr, _⟩ =>
    obtain ⟨ys, hxe, hys⟩ := hxr
    subst hxe
    match ys, hys with
    | [y], ⟨hyr, _⟩ =>
      have hyr : arel ρ (.ptr k 0) y := hyr
      obtain ⟨b, hbk, hy⟩ := hyr
      have hgo := hH.obj j t hgh
      unfold ObjOK at hgo
      rw [htb] at hgo
      obtain ⟨h0, kk, hkk, _⟩ := hgo.2 (by rw [hbk]; simp)
      rw [h0, Nat.zero_add] at hy
      subst hy
      have hrow := obj_row hH hk (by rw [hub]; simp)
      rw [hub] at hrow
      simp only [RowOK, hbk] at hrow
      obtain ⟨ca, T', fr', q1, q2, q3, q4, q5⟩ := hrow
      obtain ⟨z, z1, z2⟩ := q4 0 (.mp i) rfl
      rw [h0, Nat.zero_add] at z1
      have z2 : arel ρ (.mp i) z := z2
      obtain ⟨bm, hbm, hz⟩ := z2
      subst hz
      obtain ⟨b', ents, clk, e1, e2, e3, e4⟩ := map_obj hH hg hb
      rw [hbm] at e1; cases e1
      have hstr := L10.t26
      have hlenE : ents.size = es.length := by rw [← e3]; simp [kvs]
      have hkey : ∀ x ∈ ents.toList, ∃ q : ByteArray, x.key = .string q ∧ q.size ≤ maxLen := by
        intro x hx
        have h1 : (x.key, x.val) ∈ es := by rw [← e3]; exact List.mem_map.2 ⟨x, hx, rfl⟩
        have h2 := List.all_eq_true.1 hkeys _ h1
        have h3 := hsz _ h1
        cases hq : x.key <;> simp [hq] at h2
        rename_i q
        refine ⟨q, rfl, ?_⟩
        simp only [hq, keyB] at h3
        rw [Array.length_toList] at h3
        exact h3
      have hreads : ∀ x ∈ ents.toList, ∃ y, rd (H := Unit) P (σ.t 26) (fun _ => some (.nil, [])) x = some y := fun x hx => by
        obtain ⟨q, h1, h2⟩ := hkey x hx
        exact ⟨_, keyB_rg hstr h1 h2⟩
      have hml : (1000000 : Nat) ≤ maxLen := by decide
      have hown : w.ownsMap P (σ.t 26) (fun _ => some ((.nil : DataW Unit), [])) bm ents.size (.map ((ents.toList.map (rg P (σ.t 26) (fun _ => some (.nil, [])))).foldr DataW.insert [])) :=
        ⟨ents, clk, e2, ⟨by omega, e4, hreads⟩, Nat.le_refl _, rfl⟩
      have hsizeD := hown.size_le
      have hBlt : b < w.heap.size := (Array.getElem?_eq_some_iff.1 q1).1
      have hseq := AnyZ.keys_gives L10 Fence.wide 8 trivial rfl (by decide) b bm ents.size _ w hBlt (by rw [cell_of q1, z1]) hown
      generalize hD : (DataW.map ((ents.toList.map (rg P (σ.t 26) (fun _ => some ((.nil : DataW Unit), [])))).foldr DataW.insert [])) = D0 at hown hsizeD hseq
      have hsorted := AnyZ.sorted_in L6 Fence.wide 11 trivial trivial trivial trivial rfl (by decide) (hsort 10) e9 (σ.f 10) #[.pointer (some ⟨b, 0, none⟩)] trivial e10 _ (Maps.size D0) (by omega) (by omega) w hseq
      refine ((callsIn_wide (n := 11)).1 hsorted).mono ?_
      rintro e w' ⟨v, ss, rfl, hperm, hrow, hnil, hB⟩
      have hpk : ss.Perm (es.map keyB) := by
        refine hperm.trans ?_
        rw [← hD]
        show ((ents.toList.map (rg P (σ.t 26) (fun _ => some ((.nil : DataW Unit), [])))).foldr DataW.insert []).map (fun p => Go.strOf p.1) |>.Perm _
        refine (List.Perm.map _ (Go.WideShapes.sorted_perm _)).trans ?_
        rw [List.map_map, ← e3]
        unfold kvs
        rw [List.map_map]
        refine List.Perm.of_eq (List.map_congr_left fun x hx => ?_)
        obtain ⟨q, h1, h2⟩ := hkey x hx
        show Go.strOf (rg P (σ.t 26) (fun _ => some ((.nil : DataW Unit), [])) x).1 = keyB (x.key, x.val)
        rw [rg_of (keyB_rg hstr h1 h2), h1]
        rfl
      have hms : ss.mergeSort (fun x y => decide (x ≤ y)) = (es.map keyB).mergeSort fun x y => decide (x ≤ y) := mergeSort_of_perm hpk
      have hsl : ss.length = es.length := by rw [hpk.length_eq, List.length_map]
      have hkl : (srtK es).length = es.length := by unfold srtK; rw [List.length_map, List.length_mergeSort, List.length_map]
      have hcells : (ss.mergeSort (fun x y => decide (x ≤ y))).map encStr = (srtK es).map Value.string := by
        rw [hms]; unfold srtK; rw [List.map_map]; rfl
      rw [hcells, hsl] at hrow
      rcases hrow.2 with ⟨rfl, hz0⟩ | ⟨g, cap, cur, rfl, hbase, hgb, r1, r2, r3, r4⟩
      · have hnew := hH.addNew hB hn ⟨true, .strs (srtK es)⟩ ⟨none, 0, 0, true, none⟩ (by simp) (by simp [Body.lt]) (ObjOK.mk (by simp) (by
          show Body.cells (.strs (srtK es)) = []
          have : srtK es = [] := List.eq_nil_of_length_eq_zero (by omega)
          rw [this]; rfl) (by intro h; exact absurd rfl h)) rfl
        refine ⟨_, _, rfl, ?_, lt_new_sl, hnew, Ext.upd hn, Nat.le_succ _⟩
        show slrel (upd ρ n _ n) 0 es.length 1 _
        rw [upd_same]
        exact ⟨by omega, .inl rfl⟩
      · have hnew := hH.addNew hB hn ⟨true, .strs (srtK es)⟩ ⟨some g, 0, cap, true, none⟩ (by
            intro b hb; cases hb; exact ⟨hbase, (Array.getElem?_eq_some_iff.1 hgb).1⟩) (by simp [Body.lt]) (ObjOK.mk (by simp) (by
          show ∃ c T fr, w'.heap[g]? = some (.cells c T fr) ∧ _
          refine ⟨cur, _, _, hgb, by show 0 + cap ≤ _; omega, by show (Body.cells (.strs (srtK es))).length ≤ cap; simp [Body.cells]; omega, ?_, ?_⟩
          · intro j x hx
            rw [Nat.mul_one] at r4
            simp only [Body.cells, List.getElem?_map, Option.map_eq_some_iff] at hx
            obtain ⟨q, hq, rfl⟩ := hx
            have hj : j < es.length := by have := (List.getElem?_eq_some_iff.1 hq).1; omega
            refine ⟨.string q, ?_, rfl⟩
            have h1 : (cur.toList.take es.length)[j]? = ((srtK es).map Value.string)[j]? := by rw [r4]
            rw [List.getElem?_take_of_lt hj, List.getElem?_map, hq, Array.getElem?_toList] at h1
            show cur[0 + j]? = _
            rw [Nat.zero_add]
            exact h1
          · intro _ j _ h
            exact absurd h.2 (by simp)) (by intro _; show (true = true → true = true); intro _; rfl)) rfl
        refine ⟨_, _, rfl, ?_, lt_new_sl, hnew, Ext.upd hn, Nat.le_succ _⟩
        show slrel (upd ρ n _ n) 0 es.length 1 _
        rw [upd_same]
        exact ⟨cap, 0, r1, ⟨by show 0 + cap * 1 ≤ cap; omega, fun _ => by show 0 + cap * 1 = cap; omega⟩, fun _ => rfl, rfl⟩
end Go.Sx

/- maps.Clone, maps.Keys, slices.Sorted at this program. -/
set_option linter.unusedVariables false
set_option linter.unusedSimpArgs false
set_option maxRecDepth 100000
namespace Go.Proofs
open Go.Shelf Go.RowKit Go.Sx
def layZ_ren : Go.Shelf.Ren := ⟨fun | 6 => 119 | 8 => 132 | 9 => 133 | 11 => 140 | 13 => 142 | 12 => 141 | 23 => 155 | 24 => 156 | 14 => 146 | 15 => 147 | 16 => 148 | 17 => 149 | 18 => 150 | 19 => 151 | 20 => 152 | 21 => 153 | 22 => 154 | 25 => 159 | 26 => 160 | 27 => 161 | 28 => 162 | 29 => 163 | 30 => 164 | 31 => 165 | 7 => 120 | 10 => 134 | n => n, fun | 26 => 9 | 28 => 182 | 24 => 70 | 0 => 0 | 3 => 93 | 37 => 179 | 48 => 190 | 50 => 163 | 4 => 4 | 40 => 207 | 39 => 206 | 45 => 169 | 5 => 5 | 9 => 9 | 51 => 215 | 55 => 219 | 57 => 221 | 58 => 222 | 33 => 127 | 23 => 81 | 27 => 181 | n => n, fun n => n⟩
theorem layS : SlLaysZ.n6 Tryz.prog layZ_ren where
  mixed := by kernel_rfl
  f6 := ⟨Tryz.f119.name, by kernel_rfl, Tryz.func119.trans (congrArg some (by kernel_rfl))⟩
  f8 := ⟨Tryz.f132.name, by kernel_rfl, Tryz.func132.trans (congrArg some (by kernel_rfl))⟩
  f11 := ⟨Tryz.f140.name, by kernel_rfl, Tryz.func140.trans (congrArg some (by kernel_rfl))⟩
  t0 := Tryz.underlying0
  a0 := Tryz.isAgg0
  z0 := Tryz.sizeOf0
  v0 := Tryz.zeroValue0
  t24 := Tryz.underlying70
  a24 := Tryz.isAgg70
  z24 := Tryz.sizeOf70
  v24 := Tryz.zeroValue70
  t26 := Tryz.underlying9
  a26 := Tryz.isAgg9
  z26 := Tryz.sizeOf9
  v26 := Tryz.zeroValue9
  t28 := Tryz.underlying182
  a28 := Tryz.isAgg182
  z28 := Tryz.sizeOf182
  v28 := Tryz.zeroValue182
  i26 := by kernel_rfl
theorem layK : SlLaysZ.n7 Tryz.prog layZ_ren where
  mixed := by kernel_rfl
  f7 := ⟨Tryz.f120.name, by kernel_rfl, Tryz.func120.trans (congrArg some (by kernel_rfl))⟩
  f10 := ⟨Tryz.f134.name, by kernel_rfl, Tryz.func134.trans (congrArg some (by kernel_rfl))⟩
  t0 := Tryz.underlying0
  a0 := Tryz.isAgg0
  z0 := Tryz.sizeOf0
  v0 := Tryz.zeroValue0
  t4 := Tryz.underlying4
  a4 := Tryz.isAgg4
  z4 := Tryz.sizeOf4
  v4 := Tryz.zeroValue4
  t23 := Tryz.underlying81
  a23 := Tryz.isAgg81
  z23 := Tryz.sizeOf81
  v23 := Tryz.zeroValue81
  t26 := Tryz.underlying9
  a26 := Tryz.isAgg9
  z26 := Tryz.sizeOf9
  v26 := Tryz.zeroValue9
  t27 := Tryz.underlying181
  a27 := Tryz.isAgg181
  z27 := Tryz.sizeOf181
  v27 := Tryz.zeroValue181
  t28 := Tryz.underlying182
  a28 := Tryz.isAgg182
  z28 := Tryz.sizeOf182
  v28 := Tryz.zeroValue182
  t33 := Tryz.underlying127
  a33 := Tryz.isAgg127
  z33 := Tryz.sizeOf127
  v33 := Tryz.zeroValue127
theorem layK1 : SlLaysZ.n10 Tryz.prog layZ_ren where
  mixed := by kernel_rfl
  f10 := ⟨Tryz.f134.name, by kernel_rfl, Tryz.func134.trans (congrArg some (by kernel_rfl))⟩
  t0 := Tryz.underlying0
  a0 := Tryz.isAgg0
  z0 := Tryz.sizeOf0
  v0 := Tryz.zeroValue0
  t4 := Tryz.underlying4
  a4 := Tryz.isAgg4
  z4 := Tryz.sizeOf4
  v4 := Tryz.zeroValue4
  t23 := Tryz.underlying81
  a23 := Tryz.isAgg81
  z23 := Tryz.sizeOf81
  v23 := Tryz.zeroValue81
  t26 := Tryz.underlying9
  a26 := Tryz.isAgg9
  z26 := Tryz.sizeOf9
  v26 := Tryz.zeroValue9
  t33 := Tryz.underlying127
  a33 := Tryz.isAgg127
  z33 := Tryz.sizeOf127
  v33 := Tryz.zeroValue127
def layC_ren : Go.Shelf.Ren := ⟨fun | 5 => 49 | 7 => 90 | n => n, fun | 23 => 81 | 25 => 9 | 3 => 93 | 4 => 4 | 20 => 20 | n => n, fun n => n⟩
theorem layC : SlLaysW.n5 Tryz.prog layC_ren where
  mixed := by kernel_rfl
  f5 := ⟨Tryz.f49.name, by kernel_rfl, Tryz.func49.trans (congrArg some (by kernel_rfl))⟩
  f7 := Tryz.func90.trans (congrArg some (by kernel_rfl))
  t4 := Tryz.underlying4
  a4 := Tryz.isAgg4
  z4 := Tryz.sizeOf4
  v4 := Tryz.zeroValue4
  t20 := Tryz.underlying20
  a20 := Tryz.isAgg20
  z20 := Tryz.sizeOf20
  v20 := Tryz.zeroValue20
  t23 := Tryz.underlying81
  a23 := Tryz.isAgg81
  z23 := Tryz.sizeOf81
  v23 := Tryz.zeroValue81
def laySo_ren : Go.Shelf.Ren := ⟨fun | 6 => 133 | 8 => 142 | 9 => 141 | 19 => 155 | 20 => 156 | 21 => 146 | 22 => 147 | 23 => 148 | 24 => 149 | 25 => 150 | 26 => 151 | 27 => 152 | 28 => 153 | 29 => 154 | 36 => 159 | 31 => 160 | 32 => 161 | 37 => 162 | 38 => 163 | 39 => 164 | 41 => 165 | n => n, fun | 27 => 70 | 29 => 9 | 3 => 3 | 32 => 179 | 26 => 70 | 0 => 0 | 44 => 190 | 46 => 163 | 4 => 4 | 36 => 207 | 35 => 206 | 41 => 169 | 5 => 5 | 9 => 9 | 53 => 215 | 57 => 219 | 63 => 221 | 64 => 222 | n => n, fun n => n⟩
theorem laySo : SlLaysM.n6 Tryz.prog laySo_ren where
  mixed := by kernel_rfl
  f6 := ⟨Tryz.f133.name, by kernel_rfl, Tryz.func133.trans (congrArg some (by kernel_rfl))⟩
  f8 := Tryz.func142.trans (congrArg some (by kernel_rfl))
  f9 := ⟨Tryz.f141.name, by kernel_rfl, Tryz.func141.trans (congrArg some (by kernel_rfl))⟩
  f19 := Tryz.func155.trans (congrArg some (by kernel_rfl))
  f20 := Tryz.func156.trans (congrArg some (by kernel_rfl))
  f21 := ⟨Tryz.f146.name, by kernel_rfl, Tryz.func146.trans (congrArg some (by kernel_rfl))⟩
  f22 := ⟨Tryz.f147.name, by kernel_rfl, Tryz.func147.trans (congrArg some (by kernel_rfl))⟩
  f23 := ⟨Tryz.f148.name, by kernel_rfl, Tryz.func148.trans (congrArg some (by kernel_rfl))⟩
  f24 := ⟨Tryz.f149.name, by kernel_rfl, Tryz.func149.trans (congrArg some (by kernel_rfl))⟩
  f25 := ⟨Tryz.f150.name, by kernel_rfl, Tryz.func150.trans (congrArg some (by kernel_rfl))⟩
  f26 := ⟨Tryz.f151.name, by kernel_rfl, Tryz.func151.trans (congrArg some (by kernel_rfl))⟩
  f27 := ⟨Tryz.f152.name, by kernel_rfl, Tryz.func152.trans (congrArg some (by kernel_rfl))⟩
  f28 := ⟨Tryz.f153.name, by kernel_rfl, Tryz.func153.trans (congrArg some (by kernel_rfl))⟩
  f29 := ⟨Tryz.f154.name, by kernel_rfl, Tryz.func154.trans (congrArg some (by kernel_rfl))⟩
  f31 := Tryz.func160.trans (congrArg some (by kernel_rfl))
  f32 := Tryz.func161.trans (congrArg some (by kernel_rfl))
  f36 := ⟨Tryz.f159.name, by kernel_rfl, Tryz.func159.trans (congrArg some (by kernel_rfl))⟩
  f37 := ⟨Tryz.f162.name, by kernel_rfl, Tryz.func162.trans (congrArg some (by kernel_rfl))⟩
  f38 := ⟨Tryz.f163.name, by kernel_rfl, Tryz.func163.trans (congrArg some (by kernel_rfl))⟩
  f39 := ⟨Tryz.f164.name, by kernel_rfl, Tryz.func164.trans (congrArg some (by kernel_rfl))⟩
  f41 := ⟨Tryz.f165.name, by kernel_rfl, Tryz.func165.trans (congrArg some (by kernel_rfl))⟩
  t0 := Tryz.underlying0
  a0 := Tryz.isAgg0
  z0 := Tryz.sizeOf0
  v0 := Tryz.zeroValue0
  t3 := Tryz.underlying3
  a3 := Tryz.isAgg3
  z3 := Tryz.sizeOf3
  v3 := Tryz.zeroValue3
  t4 := Tryz.underlying4
  a4 := Tryz.isAgg4
  z4 := Tryz.sizeOf4
  v4 := Tryz.zeroValue4
  t5 := Tryz.underlying5
  a5 := Tryz.isAgg5
  z5 := Tryz.sizeOf5
  v5 := Tryz.zeroValue5
  t9 := Tryz.underlying9
  a9 := Tryz.isAgg9
  z9 := Tryz.sizeOf9
  v9 := Tryz.zeroValue9
  t26 := Tryz.underlying70
  a26 := Tryz.isAgg70
  z26 := Tryz.sizeOf70
  v26 := Tryz.zeroValue70
  t27 := Tryz.underlying70
  a27 := Tryz.isAgg70
  z27 := Tryz.sizeOf70
  v27 := Tryz.zeroValue70
  t29 := Tryz.underlying9
  a29 := Tryz.isAgg9
  z29 := Tryz.sizeOf9
  v29 := Tryz.zeroValue9
  t32 := Tryz.underlying179
  a32 := Tryz.isAgg179
  z32 := Tryz.sizeOf179
  v32 := Tryz.zeroValue179
  t35 := Tryz.underlying206
  a35 := Tryz.isAgg206
  z35 := Tryz.sizeOf206
  v35 := Tryz.zeroValue206
  t36 := Tryz.underlying207
  a36 := Tryz.isAgg207
  z36 := Tryz.sizeOf207
  v36 := Tryz.zeroValue207
  t41 := Tryz.underlying169
  a41 := Tryz.isAgg169
  z41 := Tryz.sizeOf169
  v41 := Tryz.zeroValue169
  t44 := Tryz.underlying190
  a44 := Tryz.isAgg190
  z44 := Tryz.sizeOf190
  v44 := Tryz.zeroValue190
  t46 := Tryz.underlying163
  a46 := Tryz.isAgg163
  z46 := Tryz.sizeOf163
  v46 := Tryz.zeroValue163
  t53 := Tryz.underlying215
  a53 := Tryz.isAgg215
  z53 := Tryz.sizeOf215
  v53 := Tryz.zeroValue215
  t57 := Tryz.underlying219
  a57 := Tryz.isAgg219
  z57 := Tryz.sizeOf219
  v57 := Tryz.zeroValue219
  t63 := Tryz.underlying221
  a63 := Tryz.isAgg221
  z63 := Tryz.sizeOf221
  v63 := Tryz.zeroValue221
  t64 := Tryz.underlying222
  a64 := Tryz.isAgg222
  z64 := Tryz.sizeOf222
  v64 := Tryz.zeroValue222
theorem sortsZ (m : Nat) : AnyZ.SortsIn Tryz.prog layZ_ren Fence.wide m :=
  ⟨fun blk off cap ss W hH hblk hsz => callsIn_wide.2 (AnyM.slices_Sort_string laySo blk off cap ss W hH hblk hsz), fun p cap W => callsIn_wide.2 (AnyM.slices_Sort_string_none laySo p cap W)⟩
variable {H : Hp} {n : Nat}
theorem cloneT {i : Nat} {es : List (Value × Value)} {s : SO} (hg : H.get i = some s) (hb : s.b = .mp (.map es)) (hn : n < 1000) :
    SpecAt Tryz.prog 49 [.mp i] H n (.mp n) (H.put n ⟨true, .mp (.map es)⟩) (n + 1) := clone_S layC hg hb hn
theorem keysT {i : Nat} {s : SO} (hg : H.get i = some s) (hn : n + 1 < 1000) :
    SpecAt Tryz.prog 120 [.mp i] H n (.fn 134 [.ptr n 0]) ((H.put n ⟨true, .sv [.mp i]⟩).put (n + 1) ⟨false, .mp (.shp n 81 (some 1))⟩) (n + 2) := keys_S layK hg hn
theorem sortedT {i j k : Nat} {es : List (Value × Value)} {s u t : SO} {T : Nat} {c0 : Option Nat} (hk : H.get k = some u) (hub : u.b = .sv [.mp i]) (hgh : H.get j = some t) (htb : t.b = .mp (.shp k T c0)) (hg : H.get i = some s) (hb : s.b = .mp (.map es))
    (hkeys : keysS es = true) (hsz : ∀ e ∈ es, (keyB e).length ≤ maxLen) (hlen : es.length ≤ 1000000) (hn : n < 1000) :
    SpecAt Tryz.prog 119 [.fn 134 [.ptr k 0]] H n (.sl n 0 es.length 1) (H.put n ⟨true, .strs (srtK es)⟩) (n + 1) :=
  sorted_S layS layK1 sortsZ (laySo.f6.enters rfl) (layK1.f10.enters rfl) hk hub hgh htb hg hb hkeys hsz hlen hn
end Go.Proofs

/- strings.Builder, wherever it lies: copyCheck, String. -/
set_option linter.unusedVariables false
set_option linter.unusedSimpArgs false
namespace Go.Proofs
open Go.Shelf Go.RowKit
variable {P : Program} {ρ : Ren}
set_option maxHeartbeats 1000000 in
set_option maxRecDepth 100000 in
theorem ck_used (L : Lays.n240 P ρ) (X : Builder.X72 P ρ) (b o : Nat) (w : World) (h0 : w.cell? ⟨b, o, none⟩ = some (.pointer (some ⟨b, o, none⟩))) :
    Calls P (ρ.f 240) #[.pointer (some ⟨b, o, none⟩)] w fun e w' => e = .returned (.tuple #[]) ∧ w' = w := by
  obtain ⟨j, hj, _⟩ := Option.map_eq_some_iff.1 X.sizeBuilder
  have mixed := L.mixed
  have t72 := L.t72; have a72 := L.a72; have z72 := L.z72; have v72 := L.v72; have u72 := run_underlying L.t72
  have t70 := L.t70; have a70 := L.a70; have z70 := L.z70; have v70 := L.v70; have u70 := run_underlying L.t70
  have t9 := L.t9; have a9 := L.a9; have z9 := L.z9; have v9 := L.v9; have u9 := run_underlying L.t9
  have t4 := L.t4; have a4 := L.a4; have z4 := L.z4; have v4 := L.v4; have u4 := run_underlying L.t4
  have t164 := L.t164; have a164 := L.a164; have z164 := L.z164; have v164 := L.v164; have u164 := run_underlying L.t164
  go_enter L.f240, Body.n240_ntmps ρ
  go_wp2
  rw [Lib.run_neq_ptr_same w _ L.t70 hj]
  go_wp2
  go_end0
  exact ⟨rfl, rfl⟩
set_option maxHeartbeats 1000000 in
set_option maxRecDepth 100000 in
theorem ck_fresh (L : Lays.n240 P ρ) (X : Builder.X72 P ρ) (b o T c : Nat) (w : World) (h0 : w.cell? ⟨b, o, none⟩ = some (.pointer none)) (hsh : w.shape? b = some (T, c)) (hoc : o < c) (hlies : liesAt P P.depth T (c / P.cellsOf T) o (ρ.t 72) 1 = true) (hfz : w.frozen? ⟨b, o, none⟩ = false) :
    Calls P (ρ.f 240) #[.pointer (some ⟨b, o, none⟩)] w fun e w' => e = .returned (.tuple #[]) ∧ w' = w.setCell ⟨b, o, none⟩ (.pointer (some ⟨b, o, none⟩)) := by
  obtain ⟨j, hj, hjs⟩ := Option.map_eq_some_iff.1 X.sizeBuilder
  have mixed := L.mixed
  have t72 := L.t72; have a72 := L.a72; have z72 := L.z72; have v72 := L.v72; have u72 := run_underlying L.t72
  have t70 := L.t70; have a70 := L.a70; have z70 := L.z70; have v70 := L.v70; have u70 := run_underlying L.t70
  have t9 := L.t9; have a9 := L.a9; have z9 := L.z9; have v9 := L.v9; have u9 := run_underlying L.t9
  have t4 := L.t4; have a4 := L.a4; have z4 := L.z4; have v4 := L.v4; have u4 := run_underlying L.t4
  have t164 := L.t164; have a164 := L.a164; have z164 := L.z164; have v164 := L.v164; have u164 := run_underlying L.t164
  go_enter L.f240, Body.n240_ntmps ρ
  go_wp2
  rw [Lib.run_to_unsafe w ⟨b, o, none⟩ L.t70 L.t164 hj (by rw [hjs]; decide) hsh hoc]
  simp only [Result.andThen]
  rw [Oper.upon_value]
  go_wp2
  rw [run_callFunc_extern L.f276 (by kernel_rfl) (by kernel_rfl) (by kernel_rfl) (e := Extern.AbiNoEscape.same) (by kernel_rfl)]
  rw [Lib.run_noEscape]
  simp only [Result.andThen]
  rw [Oper.upon_value]
  go_wp2
  rw [Lib.run_from_unsafe w ⟨b, o, none⟩ L.t164 L.t70 hj hsh hlies]
  simp only [Result.andThen]
  rw [Oper.upon_value]
  go_wp2
  go_end0
  exact ⟨rfl, rfl⟩
set_option maxHeartbeats 1000000 in
set_option maxRecDepth 100000 in
theorem str_some (L : Lays.n169 P ρ) (X : Builder.Extra P ρ) (b o g cap c : Nat) (l : List UInt8) (w : World) (h0 : l ≠ []) (k1 : w.cell? ⟨b, o + 1, none⟩ = some (.slice (some ⟨g, 0, none⟩) l.length cap)) (hcap : l.length ≤ cap) (hsh : w.shape? g = some (ρ.t 5, c)) (hlc : l.length ≤ c) (h63 : l.length ≤ 9223372036854775807)
    (hcell : ∀ j x, l[j]? = some x → w.cell? ((⟨g, 0, none⟩ : Addr).add j) = some (.int .u8 x.toNat)) :
    Calls P (ρ.f 169) #[.pointer (some ⟨b, o, none⟩)] w fun e w' => e = .returned (.string ⟨l.toArray⟩) ∧ w' = w.drew.freeze ⟨g, 0, none⟩ l.length := by
  have hl0 : l.length ≠ 0 := by simpa using h0
  have c1 : w.drew.cell? ⟨b, o + 1, none⟩ = some (.slice (some ⟨g, 0, none⟩) l.length cap) := k1
  have hSD : (Builtin.unsafeSliceData_ #[(ρ.t 37)] (ρ.t 127) #[.slice (some ⟨g, 0, none⟩) l.length cap]).run P w.drew = .ok (.pointer (some ⟨g, 0, none⟩)) w.drew :=
    Lib.run_unsafeSliceData_row _ _ _ _ _ _ (by omega)
  have hUS : (Builtin.unsafeString_ #[(ρ.t 127), (ρ.t 3)] (ρ.t 9) #[.pointer (some ⟨g, 0, none⟩), .int .i64 l.length]).run P w.drew = .ok (.string ⟨l.toArray⟩) (w.drew.freeze ⟨g, 0, none⟩ l.length) :=
    Lib.run_unsafeString_row w.drew (ρ.t 127) (ρ.t 3) (ρ.t 9) (ρ.t 5) L.t127 X.cellsByte g c hsh l h0 hlc h63 hcell
  have mixed := L.mixed
  have t72 := L.t72; have a72 := L.a72; have z72 := L.z72; have v72 := L.v72; have u72 := run_underlying L.t72
  have t70 := L.t70; have a70 := L.a70; have z70 := L.z70; have v70 := L.v70; have u70 := run_underlying L.t70
  have t37 := L.t37; have a37 := L.a37; have z37 := L.z37; have v37 := L.v37; have u37 := run_underlying L.t37
  have t127 := L.t127; have a127 := L.a127; have z127 := L.z127; have v127 := L.v127; have u127 := run_underlying L.t127
  have t3 := L.t3; have a3 := L.a3; have z3 := L.z3; have v3 := L.v3; have u3 := run_underlying L.t3
  have t9 := L.t9; have a9 := L.a9; have z9 := L.z9; have v9 := L.v9; have u9 := run_underlying L.t9
  have t5 := X.t5; have a5 := X.a5; have z5 := X.z5; have v5 := X.v5; have u5 := run_underlying X.t5
  go_enter L.f169, Body.n169_ntmps ρ
  go_wp2
  go_region_o
  all_goals (go_wp2; go_ret; exact ⟨rfl, rfl⟩)
end Go.Proofs

/- strings.Builder in the symbolic heap. -/
set_option linter.unusedVariables false
set_option linter.unusedSimpArgs false
namespace Go.Sx
open Go.Shelf Go.RowKit Go.Proofs
variable {P : Program} {σ : Ren} {H : Hp} {n : Nat}
theorem ck_fresh_S (L : Lays.n240 P σ) (X : Builder.X72 P σ) {i j o T c : Nat} {cs cs' : List SV} {s : SO} (hg : H.get i = some ⟨true, .sv cs⟩) (hc : cs[o]? = some (.v (.pointer none))) (hj : H.get j = some s) (hs : s.b = .mp (.shp i T (some c)))
    (hoc : o < c) (hlies : liesAt P P.depth T (c / P.cellsOf T) o (σ.t 72) 1 = true) (hcs : splice cs o [.ptr i o] = cs') :
    SpecAt P (σ.f 240) [.ptr i o] H n (.tup []) (H.put i ⟨true, .sv cs'⟩) n := by
  intro F w0 w ρ xs hH hz hl
  match xs, hz with
  | [x], ⟨⟨b, hb, hx⟩, _⟩ =>
    have hgh := hH.obj j s hj
    unfold ObjOK at hgh
    rw [hs] at hgh
    obtain ⟨h0, k, hk, hck⟩ := hgh.2 (by rw [hb]; simp)
    obtain rfl := hck c rfl
    obtain ⟨ca, fr, e1, e2⟩ := hH.shp i T c b hk hb
    rw [h0, Nat.zero_add] at hx
    subst hx
    have hr := obj_row hH hg (by simp)
    have hr' := hr
    simp only [RowOK, hb] at hr'
    obtain ⟨ca', T', fr', q1, q2, q3, q4, q5⟩ := hr'
    rw [e1] at q1; cases q1
    have holt : o < cs.length := (List.getElem?_eq_some_iff.1 hc).1
    obtain ⟨y, y1, y2⟩ := q4 o _ hc
    rw [h0, Nat.zero_add] at y1
    have y2 : y = .pointer none := y2
    subst y2
    have hfz : w.frozen? ⟨b, o, none⟩ = false := by
      have := q5 trivial o (by have : cs.length ≤ (ρ i).size := q3; omega)
      rw [h0, Nat.zero_add] at this
      simp only [World.frozen?, e1]
      simp; omega
    refine (ck_fresh L X b o T c w (by rw [cell_of e1, y1]) (by simp [World.shape?, e1, e2]) hoc hlies hfz).mono ?_
    rintro e w' ⟨rfl, rfl⟩
    have hidi := (hH.lt i _ hg).1
    have hz1 : All2 (crel ρ) [SV.ptr i o] [Value.pointer (some ⟨b, o, none⟩)] := ⟨⟨b, hb, by rw [h0, Nat.zero_add]⟩, trivial⟩
    obtain ⟨c2, T2, fr2, p1, p2, p3, p4⟩ := row_write hr hb o _ _ hz1 (by simp [Body.cells]; omega)
    rw [e1] at p1; cases p1
    rw [h0, Nat.zero_add] at p4
    rw [setCell_wset e1]
    refine ⟨_, ρ, rfl, ⟨[], rfl, trivial⟩, rfl, ?_, Ext.refl _ _, Nat.le_refl _⟩
    refine hH.write i _ ⟨true, .sv cs'⟩ hg rfl ?_ ?_ rfl rfl rfl (by simp [wset]) (fun q hq => wset_heap_ne _ _ _ _ (fun e => hq (by rw [hb, e]))) (wset_keep e1 (by simp))
    · have hlt := (hH.lt i _ hg).2
      simp only [Body.lt, List.all_eq_true] at hlt ⊢
      intro v hv
      rw [← hcs] at hv
      rcases mem_splice hv with h | h
      · exact hlt v h
      · rw [List.mem_singleton.1 h]; exact hidi
    · refine ObjOK.mk (by simp) ?_ ((obj_ex hH hg (by simp)).to rfl (fun _ => rfl))
      show RowOK _ _ _ true (Body.sv cs').cells
      rw [← hcs]; exact p4
theorem ck_used_S (L : Lays.n240 P σ) (X : Builder.X72 P σ) {i o : Nat} {cs : List SV} {s : SO} (hg : H.get i = some s) (hb' : s.b = .sv cs) (hc : cs[o]? = some (.ptr i o)) :
    SpecAt P (σ.f 240) [.ptr i o] H n (.tup []) H n := by
  intro F w0 w ρ xs hH hz hl
  match xs, hz with
  | [x], ⟨⟨b, hb, hx⟩, _⟩ =>
    subst hx
    have hr := obj_row hH hg (by rw [hb']; simp)
    rw [hb'] at hr
    simp only [RowOK, hb] at hr
    obtain ⟨ca', T', fr', q1, q2, q3, q4, q5⟩ := hr
    obtain ⟨y, y1, y2⟩ := q4 o _ hc
    obtain ⟨b2, hb2, y3⟩ := (y2 : arel ρ (.ptr i o) y)
    rw [hb] at hb2; cases hb2
    subst y3
    refine (ck_used L X b ((ρ i).off + o) w (by rw [cell_of q1, y1])).mono ?_
    rintro e w' ⟨rfl, rfl⟩
    exact ⟨_, ρ, rfl, ⟨[], rfl, trivial⟩, rfl, hH, Ext.refl _ _, Nat.le_refl _⟩
theorem str_some_S (L : Lays.n169 P σ) (X : Builder.Extra P σ) {i o r k q : Nat} {cs : List SV} {s t : SO} {bs : List Int} (hg : H.get i = some s) (hb' : s.b = .sv cs) (hc : cs[o + 1]? = some (.sl r 0 k 1)) (hr : H.get r = some ⟨true, .ints .u8 bs⟩)
    (hk : k = bs.length) (hk0 : k ≠ 0) (hk1 : k ≤ 9223372036854775807) (hq : H.get q = some t) (ht : t.b = .mp (.shp r (σ.t 5) none)) (hby : ∀ y ∈ bs, 0 ≤ y ∧ y ≤ 255) :
    SpecAt P (σ.f 169) [.ptr i o] H n (.v (.string (tx bs))) (H.put r ⟨false, .ints .u8 bs⟩) n := by
  intro F w0 w ρ xs hH hz hl
  match xs, hz with
  | [x], ⟨⟨b, hb, hx⟩, _⟩ =>
    subst hx
    have hri := obj_row hH hg (by rw [hb']; simp)
    rw [hb'] at hri
    simp only [RowOK, hb] at hri
    obtain ⟨ca', T', fr', q1, q2, q3, q4, q5⟩ := hri
    obtain ⟨y, y1, y2⟩ := q4 (o + 1) _ hc
    have y2 : slrel (ρ r) 0 k 1 y := y2
    cases hbr : (ρ r).blk with
    | none => simp only [slrel, hbr] at y2; exact absurd y2.1 hk0
    | some g =>
      simp only [slrel, hbr] at y2
      obtain ⟨cap, a, z1, z2, z3, z4⟩ := y2
      have hgh := hH.obj q t hq
      unfold ObjOK at hgh
      rw [ht] at hgh
      obtain ⟨h0, c, hsh, _⟩ := hgh.2 (by rw [hbr]; simp)
      have ha := z3 (by omega)
      rw [h0] at ha
      subst ha
      subst z4
      obtain ⟨ca, fr, e1, e2⟩ := hH.shp r _ c g hsh hbr
      have hrr := obj_row hH hr (by simp)
      have hrr' := hrr
      simp only [RowOK, hbr] at hrr
      obtain ⟨ca2, T2, fr2, p1, p2, p3, p4, p5⟩ := hrr
      rw [e1] at p1; cases p1
      have hl1 : (tx bs).data.toList.length = bs.length := by
        have := tx_sz bs
        exact this
      have hcell : ∀ j x, (tx bs).data.toList[j]? = some x → w.cell? ((⟨g, 0, none⟩ : Addr).add j) = some (.int .u8 x.toNat) := by
        intro j x hx
        have hj : j < bs.length := by rw [← hl1]; exact (List.getElem?_eq_some_iff.1 hx).1
        have hx2 : x = UInt8.ofNat (bs[j]).toNat := by
          simp [tx, hj] at hx
          exact hx.symm
        obtain ⟨v, v1, v2⟩ := p4 j (.v (.int .u8 bs[j])) (by simp [Body.cells, hj])
        have v2 : v = .int .u8 bs[j] := v2
        rw [h0, Nat.zero_add] at v1
        have hb2 := hby bs[j] (List.getElem_mem hj)
        rw [add_plain, Nat.zero_add, cell_of e1, v1, v2, hx2]
        congr 2
        have : (UInt8.ofNat (bs[j]).toNat).toNat = (bs[j]).toNat := by
          rw [UInt8.toNat_ofNat']; omega
        omega
      have hbl : bs.length ≤ ca.size := by
        have h1 : bs.length ≤ (ρ r).size := by simpa [Body.cells] using p3
        omega
      have hrun := str_some L X b ((ρ i).off + o) g cap c (tx bs).data.toList w (fun e => by rw [e] at hl1; simp at hl1; omega) (by rw [cell_of q1, Nat.add_assoc, y1, hl1, hk]) (by omega) (by simp [World.shape?, e1, e2]) (by omega) (by omega) hcell
      refine hrun.mono ?_
      rintro e w' ⟨rfl, rfl⟩
      refine ⟨_, ρ, rfl, rfl, rfl, ?_, Ext.refl _ _, Nat.le_refl _⟩
      have hD := hH.drew
      obtain ⟨fr3, hnew⟩ : ∃ fr3, (w.drew.freeze ⟨g, 0, none⟩ (tx bs).data.toList.length).heap[g]? = some (.cells ca (σ.t 5) fr3) := by
        unfold World.freeze
        rw [if_neg (by omega)]
        have e1' : w.drew.heap[g]? = some (.cells ca (σ.t 5) fr) := e1
        obtain ⟨lo, hi⟩ := fr
        exact ⟨_, by rw [Array.getElem?_modify, if_pos rfl, e1']; rfl⟩
      have hoth : ∀ m, m ≠ g → (w.drew.freeze ⟨g, 0, none⟩ (tx bs).data.toList.length).heap[m]? = w.drew.heap[m]? := by
        intro m hm
        unfold World.freeze
        rw [if_neg (by omega)]
        show (w.drew.heap.modify g _)[m]? = _
        rw [Array.getElem?_modify, if_neg (Ne.symm hm)]
      refine hD.write r _ ⟨false, .ints .u8 bs⟩ hr rfl rfl ?_ ?_ ?_ ?_ ?_ (fun m hm => hoth m (fun e => hm (by rw [hbr, e]))) (ShKeep.of_one (b := g) (c := ca) (c' := ca) (T := σ.t 5) (fr := fr) (fr' := fr3) e1 hnew rfl hoth)
      · refine ObjOK.mk (by simp) ?_ ((obj_ex hH hr (by simp)).to rfl (fun h => by cases h))
        simp only [RowOK, hbr]
        exact ⟨ca, _, fr3, hnew, p2, p3, p4, fun h => by cases h⟩
      all_goals (unfold World.freeze; rw [if_neg (by omega)])
      simp
end Go.Sx

/- strings.Builder at this program. -/
set_option linter.unusedVariables false
set_option linter.unusedSimpArgs false
set_option maxRecDepth 100000
namespace Go.Proofs
open Go.Shelf Go.RowKit Go.Sx
def layCk_ren : Go.Shelf.Ren := ⟨fun | 240 => 111 | 276 => 131 | n => n, fun | 0 => 0 | 4 => 4 | 9 => 9 | 20 => 20 | 70 => 141 | 72 => 143 | 164 => 187 | 5 => 5 | 37 => 79 | n => n, fun n => n⟩
theorem layCk : Lays.n240 Tryz.prog layCk_ren where
  mixed := by kernel_rfl
  f240 := Tryz.func111.trans (congrArg some (by kernel_rfl))
  f276 := Tryz.func131.trans (congrArg some (by kernel_rfl))
  t0 := Tryz.underlying0
  a0 := Tryz.isAgg0
  z0 := Tryz.sizeOf0
  v0 := Tryz.zeroValue0
  t4 := Tryz.underlying4
  a4 := Tryz.isAgg4
  z4 := Tryz.sizeOf4
  v4 := Tryz.zeroValue4
  t9 := Tryz.underlying9
  a9 := Tryz.isAgg9
  z9 := Tryz.sizeOf9
  v9 := Tryz.zeroValue9
  t20 := Tryz.underlying20
  a20 := Tryz.isAgg20
  z20 := Tryz.sizeOf20
  v20 := Tryz.zeroValue20
  t70 := Tryz.underlying141
  a70 := Tryz.isAgg141
  z70 := Tryz.sizeOf141
  v70 := Tryz.zeroValue141
  t72 := Tryz.underlying143
  a72 := Tryz.isAgg143
  z72 := Tryz.sizeOf143
  v72 := Tryz.zeroValue143
  t164 := Tryz.underlying187
  a164 := Tryz.isAgg187
  z164 := Tryz.sizeOf187
  v164 := Tryz.zeroValue187
theorem layCk_extra : Builder.X72 Tryz.prog layCk_ren where
  sizeBuilder := by kernel_rfl
  liesBuilder := by kernel_rfl
def layStr_ren : Go.Shelf.Ren := ⟨fun | 169 => 80 | n => n, fun | 70 => 141 | 9 => 9 | 0 => 0 | 72 => 143 | 37 => 79 | 127 => 178 | 3 => 3 | 5 => 5 | n => n, fun n => n⟩
theorem layStr : Lays.n169 Tryz.prog layStr_ren where
  mixed := by kernel_rfl
  f169 := Tryz.func80.trans (congrArg some (by kernel_rfl))
  t0 := Tryz.underlying0
  a0 := Tryz.isAgg0
  z0 := Tryz.sizeOf0
  v0 := Tryz.zeroValue0
  t3 := Tryz.underlying3
  a3 := Tryz.isAgg3
  z3 := Tryz.sizeOf3
  v3 := Tryz.zeroValue3
  t9 := Tryz.underlying9
  a9 := Tryz.isAgg9
  z9 := Tryz.sizeOf9
  v9 := Tryz.zeroValue9
  t37 := Tryz.underlying79
  a37 := Tryz.isAgg79
  z37 := Tryz.sizeOf79
  v37 := Tryz.zeroValue79
  t70 := Tryz.underlying141
  a70 := Tryz.isAgg141
  z70 := Tryz.sizeOf141
  v70 := Tryz.zeroValue141
  t72 := Tryz.underlying143
  a72 := Tryz.isAgg143
  z72 := Tryz.sizeOf143
  v72 := Tryz.zeroValue143
  t127 := Tryz.underlying178
  a127 := Tryz.isAgg178
  z127 := Tryz.sizeOf178
  v127 := Tryz.zeroValue178
theorem layStr_extra : Builder.Extra Tryz.prog layStr_ren where
  sizeBuilder := by kernel_rfl
  liesBuilder := by kernel_rfl
  t5 := Tryz.underlying5
  a5 := Tryz.isAgg5
  z5 := Tryz.sizeOf5
  v5 := Tryz.zeroValue5
  infoByte := by kernel_rfl
  cellsByte := by kernel_rfl
  sizeByte := by kernel_rfl
  neB5 := by decide
theorem ckF {i j : Nat} {H : Hp} {n : Nat} {s : SO} {v : SV} (hg : H.get i = some ⟨true, .sv [.v (.pointer none), v]⟩) (hj : H.get j = some s) (hs : s.b = .mp (.shp i 143 (some 2))) :
    SpecAt Tryz.prog 111 [.ptr i 0] H n (.tup []) (H.put i ⟨true, .sv [.ptr i 0, v]⟩) n :=
  ck_fresh_S layCk layCk_extra (o := 0) hg rfl hj hs (by decide) layCk_extra.liesBuilder rfl
theorem ckU {i : Nat} {H : Hp} {n : Nat} {s : SO} {v : SV} (hg : H.get i = some s) (hs : s.b = .sv [.ptr i 0, v]) :
    SpecAt Tryz.prog 111 [.ptr i 0] H n (.tup []) H n :=
  ck_used_S layCk layCk_extra (o := 0) hg hs rfl
theorem strS {i r k q : Nat} {H : Hp} {n : Nat} {s t : SO} {v : SV} {bs : List Int} (hg : H.get i = some s) (hb : s.b = .sv [v, .sl r 0 k 1]) (hr : H.get r = some ⟨true, .ints .u8 bs⟩) (hk : k = bs.length) (hk0 : k ≠ 0) (hk1 : k ≤ 9223372036854775807)
    (hq : H.get q = some t) (ht : t.b = .mp (.shp r 5 none)) (hby : ∀ y ∈ bs, 0 ≤ y ∧ y ≤ 255) : SpecAt Tryz.prog 80 [.ptr i 0] H n (.v (.string (tx bs))) (H.put r ⟨false, .ints .u8 bs⟩) n :=
  str_some_S layStr layStr_extra (o := 0) hg hb rfl hr hk hk0 hk1 hq ht hby
end Go.Proofs

/- Trees, at this program. -/
set_option linter.unusedVariables false
set_option linter.unusedSimpArgs false
set_option maxRecDepth 100000
namespace Go.Sx
open Go.Proofs
variable {H : Hp} {n : Nat} {x : Nat → Option SO}
theorem sub_wr {π : List (Nat × Nat)} {j i : Nat} {o : SO} (hr : rn π j = i) (hi : 0 < i) (h1 : i < 1000) {b : Body} (hg : H.get i = some ⟨true, b⟩) (hb : b = o.b.ren π) : objSub π H j o := by
  unfold objSub
  rw [hr, if_neg (by omega), hg]
  exact ⟨fun _ => h1, fun _ => rfl, hb⟩
theorem sub_ro {π : List (Nat × Nat)} {j i : Nat} {b0 : Body} (hr : rn π j = i) (hi : 0 < i) {s : SO} (hg : H.get i = some s) (hb : s.b = b0.ren π) : objSub π H j ⟨false, b0⟩ := by
  unfold objSub
  rw [hr, if_neg (by omega), hg]
  exact ⟨fun h => (by cases h), fun h => (by cases h), hb⟩
variable {H : Hp} {n : Nat} {x : Nat → Option SO}
theorem seq_self (s : ByteArray) : seq s s = true := by unfold seq; simp
variable {H : Hp} {n : Nat} {x : Nat → Option SO}
variable {H : Hp} {n : Nat} {x : Nat → Option SO}
end Go.Sx

/- Trees, at this program. -/
set_option linter.unusedVariables false
set_option linter.unusedSimpArgs false
set_option maxRecDepth 100000
namespace Go.Sx
attribute [local go_sem ↓] bind_mk intsB_mk strsB_mk svB_mk fnVC ob_some vc_skip vc_exit vc_ret vc_seq vc_block kSeq_normal kSeq_exit kSeq_ret kBlock_normal kBlock_exit kBlock_ret vc_reg vc_regD vc_cond condK_true condK_false vc_loop kLoop_exit kLoop_ret kRoll_normal kRoll_exit kRoll_ret vcOps_nil vcOps_cons gd_bool gd_undef put_some put_none vcT_fin vcT_pure vcT_act vcT_acts vcT_stop stab_none stab_some stabM_nil stabM_cons stabO_ld stabO_ldn stabO_slP stabO_b2s fldOf_ai fldOf_agg fldOf_ait fldOf_aggt intsOf_nil intsOf_cons strsOf_nil strsOf_cons c_omap ob_if lk_nil lk_cons ev_t ev_k z_mov z_pick z_bin z_binA z_binB z_binP z_un z_r2s z_conv z_s2b z_b2s z_mkM z_luM z_upM z_lenM lenMk_mp lenMk_nil plsOf_v z_delM asM_so plV_v plV_agg mpOf_mp mpOf_nil mpUp_mp asM_mp luV_ok luV_v z_allocT aggOf_mk z_boxT z_alloc z_bld z_bldI z_rowI z_rowS z_ld z_ldn z_st z_stn asN_ptr asN_fn z_nilck z_fld z_fadr z_idxA z_idxP z_idxS z_idxV z_slS z_slL z_slP z_mk z_lenS z_lenL z_app appC_ints appC_pl appC_sv appC_strs isS_strs loose_ints loose_pl loose_sv z_slM z_callv callvK_fn callvK_f callvK_yl vc_rangeF rfEnd_eq rfGo_none rfGo_ret rfGo_exit yGo_mk yEnd_n yEnd_r yEnd_e yRdy_mk yMid_n putPs_nil putPs_cons leaf_v leaf_ptr leaf_sl leaf_yl leaf_mp z_appS z_appST z_appZ z_cpyS z_mkfn reps_int reps_str z_rowV z_slnil nilK_zero z_cpy z_call asT_tup z_extT z_box boxOf_ai boxOf_agg boxOf_int boxOf_str boxOf_bool boxOf_ptr boxOf_sl sbin_int sbin_str sbinA_mk ae_nil ae_int ae_str sbinB_mk sbinP_nn sbinP_pn sbinP_np i_add i_sub i_mul i_quo i_rem i_and i_or i_xor i_andNot i_shl i_shr i_eql i_neq i_lss i_leq i_gtr i_geq st_add st_eql st_neq st_lss st_leq st_gtr st_geq bo_eql bo_neq pt_eql pt_neq un_neg un_xor un_not asI_mk asB_mk asS_mk asP_mk asSl_mk asBy_mk bnd_none bnd_some get_mk hput_mk hdel_mk kill_eq wrOf_eq rowOf_eq rsvs_0 rsvs_1 rsvs_2 rsvs_3 rsv_t rsv_c1 rsv_cn nt_v nt_ptr nt_sl nt_agg nt_ai get_ints get_strs get_pl get_sv getN_ints getN_sv set_ints set_strs set_sv setN_ints setN_sv part_ints part_strs part_sv cat_ints cat_strs cat_sv over_ints over_strs over_sv ones_ints ones_strs evs_nil evs_cons condK_eqt condK_eqf det_callP V_ns V_nn V_gs V_gn obC_mk fresh_ev freshT_ev freshR_ev setN_plagg setN_intsv setN_svai setN_svagg over_intsv set_pl setN_pl setN_plai getN_pl getN_strs part_pl cat_pl over_pl over_plints z_mm
attribute [local go_sem] initTm ne_eq not_true_eq_false not_false_eq_true true_and and_true List.length_cons List.length_nil Int.toNat_natCast Nat.add_zero Nat.zero_add Nat.mul_one List.getElem?_cons_zero List.drop_zero List.take_length List.take_succ_cons List.take_zero List.take_nil List.drop_succ_cons Option.map_some Nat.le_refl implies_true List.getElem?_cons_succ decide_true decide_false Bool.not_true Bool.not_false beq_self_eq_true Nat.succ_ne_self Nat.one_ne_zero Nat.zero_ne_one vk_mk hk_mk nk_mk tok_eq plsOf_map intsOf_map bodyOf_pl bodyOf_ints bodyOf_strs bodyOf_sv part_aggv part_agg part_ai part_int part_str part_bool part_sl part_ptr part_nil numsOf_map u_int u_str u_bool u_pnil u_sl u_ptr u_oci u_ocs evq_nil evq_cons fillS_nil fillS_cons u_ocb ones_pl cells_sv cells_ints cells_strs cells_pl smms_nil smms_cons smm_min smm_max plsOf_nil List.nil_append List.all_cons List.all_nil Bool.and_self Bool.true_and Bool.and_true zws_len zw_len zi_len List.set_cons_zero List.set_cons_succ List.flatMap_cons List.flatMap_nil List.append_nil
attribute [local go_sem_proc] Nat.reduceEqDiff Nat.reduceAdd Nat.reduceMul Nat.reduceLT Nat.reduceLeDiff Nat.reduceSub Int.reduceToNat Int.reduceLE Int.reduceLT reduceCtorEq Int.reduceEq Int.reduceGT Int.reduceGE Int.reduceNeg
attribute [local go_sem_proc ↓] reduceIte
section
open Go.Proofs
variable {H : Hp} {n : Nat} {x : Nat → Option SO}
def be (y k : Nat) : List Int := (List.range k).map fun j => ((y / 256 ^ (k - 1 - j) % 256 : Nat) : Int)
theorem be_len {y k : Nat} : (be y k).length = k := by simp [be]
theorem be_get {y k j : Nat} (h : j < k) : (be y k)[j]? = some ((y / 256 ^ (k - 1 - j) % 256 : Nat) : Int) := by
  unfold be; rw [List.getElem?_map, List.getElem?_range h]; rfl
def wrO (r : Nat) (l : Nat) (bad : Bool) : SO := ⟨true, .sv [.sl r 0 l 1, .v (.bool bad)]⟩
theorem ishr_i {y s : Nat} (hs : s ≤ 64) : ishr .i64 (y : Int) (s : Nat) = ((y / 2 ^ s : Nat) : Int) := by
  unfold ishr
  have hm : min ((s : Nat) : Int).toNat IntKind.i64.bits = s := by show min ((s : Nat) : Int).toNat 64 = s; omega
  rw [hm, Int.fdiv_eq_ediv_of_nonneg _ (Int.le_of_lt (Int.pow_pos (by decide)))]
  push_cast
  rfl
theorem pow256 (c : Nat) : 2 ^ (8 * c) = 256 ^ c := by rw [Nat.pow_mul]
theorem wNumW {y k : Nat} {bs : List Int} {bad : Bool} (hk : k ≤ 8) (hy : y < 9223372036854775808) (hf : k < 8 → y < 256 ^ k) (hb : bs.length ≤ 1099511627776) :
    fnVC CT mWNumber [.ptr 1 0, .v (.int .i64 y), .v (.int .i64 k)] ⟨[(1, some (wrO 2 bs.length bad)), (2, some ⟨true, .ints .u8 bs⟩)], x⟩ 3 fun v H' n' => Sub 3 ⟨[(0, .tup [])], ⟨[(1, some (wrO 3 (bs ++ be y k).length bad)), (2, none), (3, some ⟨true, .ints .u8 (bs ++ be y k)⟩)], x⟩, 4⟩ ⟨[(0, v)], H', n'⟩ := by
  unfold mWNumber wrO
  have g1 : decide ((y : Int) < 0) = false := decide_eq_false (by omega)
  have w1 : IntKind.i64.wrap (8 * (k : Int)) = ((8 * k : Nat) : Int) := by rw [wrap_i64 (by omega) (by omega)]; omega
  have s1 : ishr .i64 (y : Int) ((8 * k : Nat) : Int) = ((y / 256 ^ k : Nat) : Int) := by rw [ishr_i (by omega), pow256]
  have w2 : IntKind.i64.wrap ((k : Int) - 1) = (k : Int) - 1 := wrap_i64 (by omega) (by omega)
  have hz : k < 8 → decide (((y / 256 ^ k : Nat) : Int) = 0) = true := fun h => decide_eq_true (by rw [Nat.div_eq_of_lt (hf h)]; rfl)
  simp -implicitDefEqProofs only [↓fnVC, initTm]
  simp -implicitDefEqProofs only [go_sem, g1]
  refine condK_bb (fun c => ?_) (fun c => ?_)
  · have h1 := hz (by have := of_decide_eq_true c; omega)
    simp -implicitDefEqProofs only [go_sem, c, w1, s1, h1]
    refine ⟨by omega, ?_⟩
    refine loop_fam (fun (c : Nat) => c ≤ k) (fun c => ⟨[(0, .ptr 1 0), (1, .v (.int .i64 y)), (2, .v (.int .i64 ((c : Int) - 1)))], ⟨[(1, some ⟨true, .sv [.sl 3 0 (bs ++ (be y k).take (k - c)).length 1, .v (.bool bad)]⟩), (3, some ⟨true, .ints .u8 (bs ++ (be y k).take (k - c))⟩)], x⟩, 4⟩) (fun c => c) k (Nat.le_refl _) ?_ ?_
    · refine sub_mk [(3, 2)] rfl rfl rfl ?_
      simp only [tmSub, hpSub, objSub, eqTm, eqHp, rn, lk, SV.ren, SV.renC, SV.renB, SV.renA, ren_ints, ren_strs, ren_pl, ren_svs, SV.v.injEq, Value.int.injEq, Body.ints.injEq, SV.ptr.injEq, SV.sl.injEq, Value.string.injEq, Value.bool.injEq, List.map_cons, List.map_nil, forall_const, Nat.reduceLT, Nat.lt_add_one, imp_self, true_and, and_true, and_self, ob_some, get_mk, lk_cons, ↓reduceIte, Nat.reduceEqDiff, ne_eq, not_true_eq_false, not_false_eq_true, Nat.one_ne_zero, Nat.zero_ne_one, Nat.succ_ne_self, Nat.reduceAdd, Bool.false_eq_true, false_implies, implies_true, reduceCtorEq, w2, Nat.sub_self, List.take_zero, List.append_nil]
    · intro c hc
      simp -implicitDefEqProofs only [go_sem]
      refine condK_bb (fun d => ?_) (fun d => ?_)
      · have d1 : 1 ≤ c := by have := of_decide_eq_true d; omega
        have w3 : IntKind.i64.wrap (8 * ((c : Int) - 1)) = ((8 * (c - 1) : Nat) : Int) := by rw [wrap_i64 (by omega) (by omega)]; omega
        have s2 : ishr .i64 (y : Int) ((8 * (c - 1) : Nat) : Int) = ((y / 256 ^ (c - 1) : Nat) : Int) := by rw [ishr_i (by omega), pow256]
        have w4 : IntKind.u8.wrap ((y / 256 ^ (c - 1) : Nat) : Int) = ((y / 256 ^ (c - 1) % 256 : Nat) : Int) := by rw [wrap_u8]; omega
        have w5 : IntKind.i64.wrap ((c : Int) - 1 - 1) = ((c - 1 : Nat) : Int) - 1 := by rw [wrap_i64 (by omega) (by omega)]; omega
        have ht : bs ++ (be y k).take (k - (c - 1)) = (bs ++ (be y k).take (k - c)) ++ [((y / 256 ^ (c - 1) % 256 : Nat) : Int)] := by
          rw [show k - (c - 1) = (k - c) + 1 by omega, List.take_add_one, be_get (by omega), show k - 1 - (k - c) = c - 1 by omega, List.append_assoc]; rfl
        have hlen : (bs ++ (be y k).take (k - c)).length ≤ 1099511627784 := by rw [List.length_append, List.length_take]; omega
        generalize bs ++ (be y k).take (k - c) = cur at hlen ht
        simp -implicitDefEqProofs only [go_sem, d, w3, s2, w4, w5]
        refine ⟨by omega, by omega, by omega, ?_⟩
        refine kLoop_mk (c - 1) (by omega) (by omega) ?_
        refine sub_mk [(3, 5)] rfl rfl rfl ?_
        simp only [tmSub, hpSub, objSub, eqTm, eqHp, rn, lk, SV.ren, SV.renC, SV.renB, SV.renA, ren_ints, ren_strs, ren_pl, ren_svs, SV.v.injEq, Value.int.injEq, Body.ints.injEq, SV.ptr.injEq, SV.sl.injEq, Value.string.injEq, Value.bool.injEq, List.map_cons, List.map_nil, forall_const, Nat.reduceLT, Nat.lt_add_one, imp_self, true_and, and_true, and_self, ob_some, get_mk, lk_cons, ↓reduceIte, Nat.reduceEqDiff, ne_eq, not_true_eq_false, not_false_eq_true, Nat.one_ne_zero, Nat.zero_ne_one, Nat.succ_ne_self, Nat.reduceAdd, Bool.false_eq_true, false_implies, implies_true, reduceCtorEq, w5, ht, List.length_append, List.length_singleton]
      · have d1 : c = 0 := by have := of_decide_eq_false d; omega
        subst d1
        have ht : (be y k).take (k - 0) = be y k := List.take_of_length_le (by rw [be_len]; exact Nat.le_refl _)
        simp -implicitDefEqProofs only [go_sem, d, ht]
        refine sub_mk [] rfl rfl rfl ?_
        simp only [tmSub, hpSub, objSub, eqTm, eqHp, rn, lk, SV.ren, SV.renC, SV.renB, SV.renA, ren_ints, ren_strs, ren_pl, ren_svs, SV.v.injEq, Value.int.injEq, Body.ints.injEq, SV.ptr.injEq, SV.sl.injEq, Value.string.injEq, Value.bool.injEq, List.map_cons, List.map_nil, forall_const, Nat.reduceLT, Nat.lt_add_one, imp_self, true_and, and_true, and_self, ob_some, get_mk, lk_cons, ↓reduceIte, Nat.reduceEqDiff, ne_eq, not_true_eq_false, not_false_eq_true, Nat.one_ne_zero, Nat.zero_ne_one, Nat.succ_ne_self, Nat.reduceAdd, Bool.false_eq_true, false_implies, implies_true, reduceCtorEq]
  · simp -implicitDefEqProofs only [go_sem, c, w1, s1]
    refine loop_fam (fun (c : Nat) => c ≤ k) (fun c => ⟨[(0, .ptr 1 0), (1, .v (.int .i64 y)), (2, .v (.int .i64 ((c : Int) - 1)))], ⟨[(1, some ⟨true, .sv [.sl 3 0 (bs ++ (be y k).take (k - c)).length 1, .v (.bool bad)]⟩), (3, some ⟨true, .ints .u8 (bs ++ (be y k).take (k - c))⟩)], x⟩, 4⟩) (fun c => c) k (Nat.le_refl _) ?_ ?_
    · refine sub_mk [(3, 2)] rfl rfl rfl ?_
      simp only [tmSub, hpSub, objSub, eqTm, eqHp, rn, lk, SV.ren, SV.renC, SV.renB, SV.renA, ren_ints, ren_strs, ren_pl, ren_svs, SV.v.injEq, Value.int.injEq, Body.ints.injEq, SV.ptr.injEq, SV.sl.injEq, Value.string.injEq, Value.bool.injEq, List.map_cons, List.map_nil, forall_const, Nat.reduceLT, Nat.lt_add_one, imp_self, true_and, and_true, and_self, ob_some, get_mk, lk_cons, ↓reduceIte, Nat.reduceEqDiff, ne_eq, not_true_eq_false, not_false_eq_true, Nat.one_ne_zero, Nat.zero_ne_one, Nat.succ_ne_self, Nat.reduceAdd, Bool.false_eq_true, false_implies, implies_true, reduceCtorEq, w2, Nat.sub_self, List.take_zero, List.append_nil]
    · intro c hc
      simp -implicitDefEqProofs only [go_sem]
      refine condK_bb (fun d => ?_) (fun d => ?_)
      · have d1 : 1 ≤ c := by have := of_decide_eq_true d; omega
        have w3 : IntKind.i64.wrap (8 * ((c : Int) - 1)) = ((8 * (c - 1) : Nat) : Int) := by rw [wrap_i64 (by omega) (by omega)]; omega
        have s2 : ishr .i64 (y : Int) ((8 * (c - 1) : Nat) : Int) = ((y / 256 ^ (c - 1) : Nat) : Int) := by rw [ishr_i (by omega), pow256]
        have w4 : IntKind.u8.wrap ((y / 256 ^ (c - 1) : Nat) : Int) = ((y / 256 ^ (c - 1) % 256 : Nat) : Int) := by rw [wrap_u8]; omega
        have w5 : IntKind.i64.wrap ((c : Int) - 1 - 1) = ((c - 1 : Nat) : Int) - 1 := by rw [wrap_i64 (by omega) (by omega)]; omega
        have ht : bs ++ (be y k).take (k - (c - 1)) = (bs ++ (be y k).take (k - c)) ++ [((y / 256 ^ (c - 1) % 256 : Nat) : Int)] := by
          rw [show k - (c - 1) = (k - c) + 1 by omega, List.take_add_one, be_get (by omega), show k - 1 - (k - c) = c - 1 by omega, List.append_assoc]; rfl
        have hlen : (bs ++ (be y k).take (k - c)).length ≤ 1099511627784 := by rw [List.length_append, List.length_take]; omega
        generalize bs ++ (be y k).take (k - c) = cur at hlen ht
        simp -implicitDefEqProofs only [go_sem, d, w3, s2, w4, w5]
        refine ⟨by omega, by omega, by omega, ?_⟩
        refine kLoop_mk (c - 1) (by omega) (by omega) ?_
        refine sub_mk [(3, 5)] rfl rfl rfl ?_
        simp only [tmSub, hpSub, objSub, eqTm, eqHp, rn, lk, SV.ren, SV.renC, SV.renB, SV.renA, ren_ints, ren_strs, ren_pl, ren_svs, SV.v.injEq, Value.int.injEq, Body.ints.injEq, SV.ptr.injEq, SV.sl.injEq, Value.string.injEq, Value.bool.injEq, List.map_cons, List.map_nil, forall_const, Nat.reduceLT, Nat.lt_add_one, imp_self, true_and, and_true, and_self, ob_some, get_mk, lk_cons, ↓reduceIte, Nat.reduceEqDiff, ne_eq, not_true_eq_false, not_false_eq_true, Nat.one_ne_zero, Nat.zero_ne_one, Nat.succ_ne_self, Nat.reduceAdd, Bool.false_eq_true, false_implies, implies_true, reduceCtorEq, w5, ht, List.length_append, List.length_singleton]
      · have d1 : c = 0 := by have := of_decide_eq_false d; omega
        subst d1
        have ht : (be y k).take (k - 0) = be y k := List.take_of_length_le (by rw [be_len]; exact Nat.le_refl _)
        simp -implicitDefEqProofs only [go_sem, d, ht]
        refine sub_mk [] rfl rfl rfl ?_
        simp only [tmSub, hpSub, objSub, eqTm, eqHp, rn, lk, SV.ren, SV.renC, SV.renB, SV.renA, ren_ints, ren_strs, ren_pl, ren_svs, SV.v.injEq, Value.int.injEq, Body.ints.injEq, SV.ptr.injEq, SV.sl.injEq, Value.string.injEq, Value.bool.injEq, List.map_cons, List.map_nil, forall_const, Nat.reduceLT, Nat.lt_add_one, imp_self, true_and, and_true, and_self, ob_some, get_mk, lk_cons, ↓reduceIte, Nat.reduceEqDiff, ne_eq, not_true_eq_false, not_false_eq_true, Nat.one_ne_zero, Nat.zero_ne_one, Nat.succ_ne_self, Nat.reduceAdd, Bool.false_eq_true, false_implies, implies_true, reduceCtorEq]
theorem wNum0W {y k : Nat} {bs : List Int} {bad : Bool} (hk : k ≤ 8) (hy : y < 9223372036854775808) (hf : k < 8 → y < 256 ^ k) (hb : bs.length ≤ 1099511627776) (h0 : bs = []) :
    fnVC CT mWNumber [.ptr 1 0, .v (.int .i64 y), .v (.int .i64 k)] ⟨[(1, some ⟨true, .sv [.sl 0 0 0 1, .v (.bool bad)]⟩)], x⟩ 2 fun v H' n' => Sub 2 ⟨[(0, .tup [])], ⟨[(1, some (wrO 2 (be y k).length bad)), (2, some ⟨true, .ints .u8 (be y k)⟩)], x⟩, 3⟩ ⟨[(0, v)], H', n'⟩ := by
  unfold mWNumber wrO
  have g1 : decide ((y : Int) < 0) = false := decide_eq_false (by omega)
  have w1 : IntKind.i64.wrap (8 * (k : Int)) = ((8 * k : Nat) : Int) := by rw [wrap_i64 (by omega) (by omega)]; omega
  have s1 : ishr .i64 (y : Int) ((8 * k : Nat) : Int) = ((y / 256 ^ k : Nat) : Int) := by rw [ishr_i (by omega), pow256]
  have w2 : IntKind.i64.wrap ((k : Int) - 1) = (k : Int) - 1 := wrap_i64 (by omega) (by omega)
  have hz : k < 8 → decide (((y / 256 ^ k : Nat) : Int) = 0) = true := fun h => decide_eq_true (by rw [Nat.div_eq_of_lt (hf h)]; rfl)
  simp -implicitDefEqProofs only [↓fnVC, initTm]
  simp -implicitDefEqProofs only [go_sem, g1]
  refine condK_bb (fun c => ?_) (fun c => ?_)
  · have h1 := hz (by have := of_decide_eq_true c; omega)
    simp -implicitDefEqProofs only [go_sem, c, w1, s1, h1]
    refine ⟨by omega, ?_⟩
    refine loop_fam (fun (c : Nat) => c ≤ k) (fun c => ⟨[(0, .ptr 1 0), (1, .v (.int .i64 y)), (2, .v (.int .i64 ((c : Int) - 1)))], ⟨[(1, some ⟨true, .sv [.sl 2 0 (bs ++ (be y k).take (k - c)).length 1, .v (.bool bad)]⟩), (2, some ⟨true, .ints .u8 (bs ++ (be y k).take (k - c))⟩)], x⟩, 3⟩) (fun c => c) k (Nat.le_refl _) ?_ ?_
    · subst h0
      refine sub_mk [(2, 0)] rfl rfl rfl ?_
      simp only [tmSub, hpSub, objSub, eqTm, eqHp, rn, lk, SV.ren, SV.renC, SV.renB, SV.renA, ren_ints, ren_strs, ren_pl, ren_svs, SV.v.injEq, Value.int.injEq, Body.ints.injEq, SV.ptr.injEq, SV.sl.injEq, Value.string.injEq, Value.bool.injEq, List.map_cons, List.map_nil, forall_const, Nat.reduceLT, Nat.lt_add_one, imp_self, true_and, and_true, and_self, ob_some, get_mk, lk_cons, ↓reduceIte, Nat.reduceEqDiff, ne_eq, not_true_eq_false, not_false_eq_true, Nat.one_ne_zero, Nat.zero_ne_one, Nat.succ_ne_self, Nat.reduceAdd, Bool.false_eq_true, false_implies, implies_true, reduceCtorEq, w2, Nat.sub_self, List.take_zero, List.append_nil, List.length_nil]
      rfl
    · intro c hc
      simp -implicitDefEqProofs only [go_sem]
      refine condK_bb (fun d => ?_) (fun d => ?_)
      · have d1 : 1 ≤ c := by have := of_decide_eq_true d; omega
        have w3 : IntKind.i64.wrap (8 * ((c : Int) - 1)) = ((8 * (c - 1) : Nat) : Int) := by rw [wrap_i64 (by omega) (by omega)]; omega
        have s2 : ishr .i64 (y : Int) ((8 * (c - 1) : Nat) : Int) = ((y / 256 ^ (c - 1) : Nat) : Int) := by rw [ishr_i (by omega), pow256]
        have w4 : IntKind.u8.wrap ((y / 256 ^ (c - 1) : Nat) : Int) = ((y / 256 ^ (c - 1) % 256 : Nat) : Int) := by rw [wrap_u8]; omega
        have w5 : IntKind.i64.wrap ((c : Int) - 1 - 1) = ((c - 1 : Nat) : Int) - 1 := by rw [wrap_i64 (by omega) (by omega)]; omega
        have ht : bs ++ (be y k).take (k - (c - 1)) = (bs ++ (be y k).take (k - c)) ++ [((y / 256 ^ (c - 1) % 256 : Nat) : Int)] := by
          rw [show k - (c - 1) = (k - c) + 1 by omega, List.take_add_one, be_get (by omega), show k - 1 - (k - c) = c - 1 by omega, List.append_assoc]; rfl
        have hlen : (bs ++ (be y k).take (k - c)).length ≤ 1099511627784 := by rw [List.length_append, List.length_take]; omega
        generalize bs ++ (be y k).take (k - c) = cur at hlen ht
        simp -implicitDefEqProofs only [go_sem, d, w3, s2, w4, w5]
        refine ⟨by omega, by omega, by omega, ?_⟩
        refine kLoop_mk (c - 1) (by omega) (by omega) ?_
        refine sub_mk [(2, 4)] rfl rfl rfl ?_
        simp only [tmSub, hpSub, objSub, eqTm, eqHp, rn, lk, SV.ren, SV.renC, SV.renB, SV.renA, ren_ints, ren_strs, ren_pl, ren_svs, SV.v.injEq, Value.int.injEq, Body.ints.injEq, SV.ptr.injEq, SV.sl.injEq, Value.string.injEq, Value.bool.injEq, List.map_cons, List.map_nil, forall_const, Nat.reduceLT, Nat.lt_add_one, imp_self, true_and, and_true, and_self, ob_some, get_mk, lk_cons, ↓reduceIte, Nat.reduceEqDiff, ne_eq, not_true_eq_false, not_false_eq_true, Nat.one_ne_zero, Nat.zero_ne_one, Nat.succ_ne_self, Nat.reduceAdd, Bool.false_eq_true, false_implies, implies_true, reduceCtorEq, w5, ht, List.length_append, List.length_singleton]
      · have d1 : c = 0 := by have := of_decide_eq_false d; omega
        subst d1
        have ht : (be y k).take (k - 0) = be y k := List.take_of_length_le (by rw [be_len]; exact Nat.le_refl _)
        simp -implicitDefEqProofs only [go_sem, d, ht]
        refine sub_mk [] rfl rfl rfl ?_
        simp only [tmSub, hpSub, objSub, eqTm, eqHp, rn, lk, SV.ren, SV.renC, SV.renB, SV.renA, ren_ints, ren_strs, ren_pl, ren_svs, SV.v.injEq, Value.int.injEq, Body.ints.injEq, SV.ptr.injEq, SV.sl.injEq, Value.string.injEq, Value.bool.injEq, List.map_cons, List.map_nil, forall_const, Nat.reduceLT, Nat.lt_add_one, imp_self, true_and, and_true, and_self, ob_some, get_mk, lk_cons, ↓reduceIte, Nat.reduceEqDiff, ne_eq, not_true_eq_false, not_false_eq_true, Nat.one_ne_zero, Nat.zero_ne_one, Nat.succ_ne_self, Nat.reduceAdd, Bool.false_eq_true, false_implies, implies_true, reduceCtorEq, h0, List.nil_append]
  · simp -implicitDefEqProofs only [go_sem, c, w1, s1]
    refine loop_fam (fun (c : Nat) => c ≤ k) (fun c => ⟨[(0, .ptr 1 0), (1, .v (.int .i64 y)), (2, .v (.int .i64 ((c : Int) - 1)))], ⟨[(1, some ⟨true, .sv [.sl 2 0 (bs ++ (be y k).take (k - c)).length 1, .v (.bool bad)]⟩), (2, some ⟨true, .ints .u8 (bs ++ (be y k).take (k - c))⟩)], x⟩, 3⟩) (fun c => c) k (Nat.le_refl _) ?_ ?_
    · subst h0
      refine sub_mk [(2, 0)] rfl rfl rfl ?_
      simp only [tmSub, hpSub, objSub, eqTm, eqHp, rn, lk, SV.ren, SV.renC, SV.renB, SV.renA, ren_ints, ren_strs, ren_pl, ren_svs, SV.v.injEq, Value.int.injEq, Body.ints.injEq, SV.ptr.injEq, SV.sl.injEq, Value.string.injEq, Value.bool.injEq, List.map_cons, List.map_nil, forall_const, Nat.reduceLT, Nat.lt_add_one, imp_self, true_and, and_true, and_self, ob_some, get_mk, lk_cons, ↓reduceIte, Nat.reduceEqDiff, ne_eq, not_true_eq_false, not_false_eq_true, Nat.one_ne_zero, Nat.zero_ne_one, Nat.succ_ne_self, Nat.reduceAdd, Bool.false_eq_true, false_implies, implies_true, reduceCtorEq, w2, Nat.sub_self, List.take_zero, List.append_nil, List.length_nil]
      rfl
    · intro c hc
      simp -implicitDefEqProofs only [go_sem]
      refine condK_bb (fun d => ?_) (fun d => ?_)
      · have d1 : 1 ≤ c := by have := of_decide_eq_true d; omega
        have w3 : IntKind.i64.wrap (8 * ((c : Int) - 1)) = ((8 * (c - 1) : Nat) : Int) := by rw [wrap_i64 (by omega) (by omega)]; omega
        have s2 : ishr .i64 (y : Int) ((8 * (c - 1) : Nat) : Int) = ((y / 256 ^ (c - 1) : Nat) : Int) := by rw [ishr_i (by omega), pow256]
        have w4 : IntKind.u8.wrap ((y / 256 ^ (c - 1) : Nat) : Int) = ((y / 256 ^ (c - 1) % 256 : Nat) : Int) := by rw [wrap_u8]; omega
        have w5 : IntKind.i64.wrap ((c : Int) - 1 - 1) = ((c - 1 : Nat) : Int) - 1 := by rw [wrap_i64 (by omega) (by omega)]; omega
        have ht : bs ++ (be y k).take (k - (c - 1)) = (bs ++ (be y k).take (k - c)) ++ [((y / 256 ^ (c - 1) % 256 : Nat) : Int)] := by
          rw [show k - (c - 1) = (k - c) + 1 by omega, List.take_add_one, be_get (by omega), show k - 1 - (k - c) = c - 1 by omega, List.append_assoc]; rfl
        have hlen : (bs ++ (be y k).take (k - c)).length ≤ 1099511627784 := by rw [List.length_append, List.length_take]; omega
        generalize bs ++ (be y k).take (k - c) = cur at hlen ht
        simp -implicitDefEqProofs only [go_sem, d, w3, s2, w4, w5]
        refine ⟨by omega, by omega, by omega, ?_⟩
        refine kLoop_mk (c - 1) (by omega) (by omega) ?_
        refine sub_mk [(2, 4)] rfl rfl rfl ?_
        simp only [tmSub, hpSub, objSub, eqTm, eqHp, rn, lk, SV.ren, SV.renC, SV.renB, SV.renA, ren_ints, ren_strs, ren_pl, ren_svs, SV.v.injEq, Value.int.injEq, Body.ints.injEq, SV.ptr.injEq, SV.sl.injEq, Value.string.injEq, Value.bool.injEq, List.map_cons, List.map_nil, forall_const, Nat.reduceLT, Nat.lt_add_one, imp_self, true_and, and_true, and_self, ob_some, get_mk, lk_cons, ↓reduceIte, Nat.reduceEqDiff, ne_eq, not_true_eq_false, not_false_eq_true, Nat.one_ne_zero, Nat.zero_ne_one, Nat.succ_ne_self, Nat.reduceAdd, Bool.false_eq_true, false_implies, implies_true, reduceCtorEq, w5, ht, List.length_append, List.length_singleton]
      · have d1 : c = 0 := by have := of_decide_eq_false d; omega
        subst d1
        have ht : (be y k).take (k - 0) = be y k := List.take_of_length_le (by rw [be_len]; exact Nat.le_refl _)
        simp -implicitDefEqProofs only [go_sem, d, ht]
        refine sub_mk [] rfl rfl rfl ?_
        simp only [tmSub, hpSub, objSub, eqTm, eqHp, rn, lk, SV.ren, SV.renC, SV.renB, SV.renA, ren_ints, ren_strs, ren_pl, ren_svs, SV.v.injEq, Value.int.injEq, Body.ints.injEq, SV.ptr.injEq, SV.sl.injEq, Value.string.injEq, Value.bool.injEq, List.map_cons, List.map_nil, forall_const, Nat.reduceLT, Nat.lt_add_one, imp_self, true_and, and_true, and_self, ob_some, get_mk, lk_cons, ↓reduceIte, Nat.reduceEqDiff, ne_eq, not_true_eq_false, not_false_eq_true, Nat.one_ne_zero, Nat.zero_ne_one, Nat.succ_ne_self, Nat.reduceAdd, Bool.false_eq_true, false_implies, implies_true, reduceCtorEq, h0, List.nil_append]
theorem wBytesS {r l i : Nat} {bs : List Int} {bad : Bool} (hg : H.get i = some (wrO r l bad)) (hr : H.get r = some ⟨true, .ints .u8 bs⟩) (hr0 : r ≠ 0) (hl : l = bs.length) :
    SpecAt Tryz.prog nWBytes [.ptr i 0] H n (if bad then .tup [.v (.string ⟨#[]⟩), .v (.int .i64 1)] else .tup [.v (.string (tx bs)), .v (.int .i64 0)]) H n := okT.pure tWBytes (by
  unfold mWBytes
  unfold wrO at hg
  simp -implicitDefEqProofs only [↓fnVC, initTm]
  cases bad with
  | true =>
    simp -implicitDefEqProofs only [go_sem, hg]
  | false =>
    simp -implicitDefEqProofs only [go_sem, hg, hr, hl]
    rw [if_neg hr0]; trivial)
variable {H : Hp} {n : Nat} {x : Nat → Option SO}
theorem wNumS {i r y k : Nat} {bs : List Int} {bad : Bool} (hg : H.get i = some (wrO r bs.length bad)) (hr : H.get r = some ⟨true, .ints .u8 bs⟩) (hi : 0 < i ∧ i < 1000) (hr1 : 0 < r ∧ r < 1000) (hne : i ≠ r) (hn : n + 1 ≤ 1000)
    (hk : k ≤ 8) (hy : y < 9223372036854775808) (hf : k < 8 → y < 256 ^ k) (hb : bs.length ≤ 1099511627776) :
    SpecAt Tryz.prog nWNumber [.ptr i 0, .v (.int .i64 y), .v (.int .i64 k)] H n (.tup []) ⟨(i, some (wrO n (bs ++ be y k).length bad)) :: (r, none) :: (n, some ⟨true, .ints .u8 (bs ++ be y k)⟩) :: H.l, H.x⟩ (n + 1) := by
  have := lift (n := n) (okT.spec tWNumber (wNumW (x := H.x) hk hy hf hb)) [(1, i), (2, r)] rfl rfl rfl (by omega) rfl rfl
    ⟨sub_wr rfl hi.1 hi.2 hg rfl, sub_wr rfl hr1.1 hr1.2 hr rfl, trivial⟩ (by simp [apartB, apart1, rn, lk, hne, Ne.symm hne]) (by simp [wrNZ, rn, lk]; omega) (by omega)
  exact this
theorem wNum0S {i y k : Nat} {bad : Bool} (hg : H.get i = some ⟨true, .sv [.sl 0 0 0 1, .v (.bool bad)]⟩) (hi : 0 < i ∧ i < 1000) (hn : n + 1 ≤ 1000)
    (hk : k ≤ 8) (hy : y < 9223372036854775808) (hf : k < 8 → y < 256 ^ k) :
    SpecAt Tryz.prog nWNumber [.ptr i 0, .v (.int .i64 y), .v (.int .i64 k)] H n (.tup []) ⟨(i, some (wrO n (be y k).length bad)) :: (n, some ⟨true, .ints .u8 (be y k)⟩) :: H.l, H.x⟩ (n + 1) := by
  have := lift (n := n) (okT.spec tWNumber (wNum0W (x := H.x) (bs := []) hk hy hf (by decide) rfl)) [(1, i)] rfl rfl rfl (by omega) rfl rfl
    ⟨sub_wr rfl hi.1 hi.2 hg rfl, trivial⟩ (by simp [apartB, apart1, rn, lk]) (by simp [wrNZ, rn, lk]; omega) (by omega)
  exact this
theorem be_bytes {y k : Nat} : ∀ b ∈ be y k, 0 ≤ b ∧ b ≤ 255 := by
  intro b hb
  obtain ⟨j, _, rfl⟩ := List.mem_map.1 hb
  omega
variable {H : Hp} {n : Nat} {x : Nat → Option SO}
variable {H : Hp} {n : Nat} {x : Nat → Option SO}
def rdO (s : ByteArray) (e : Int) : SO := ⟨true, .sv [.v (.string s), .v (.int .i64 e)]⟩
theorem readW {s : ByteArray} : fnVC CT mPRead [.v (.string s)] ⟨[], x⟩ 1 fun v H' n' => Sub 1 ⟨[(0, .ptr 1 0)], ⟨[(1, some (rdO s 0))], x⟩, 2⟩ ⟨[(0, v)], H', n'⟩ := by
  unfold mPRead rdO
  simp -implicitDefEqProofs only [↓fnVC, initTm]
  simp -implicitDefEqProofs only [go_sem]
  refine sub_mk [] rfl rfl rfl ?_
  simp only [tmSub, hpSub, objSub, eqTm, eqHp, rn, lk, SV.ren, SV.renC, SV.renB, SV.renA, ren_ints, ren_strs, ren_pl, ren_svs, SV.v.injEq, Value.int.injEq, Body.ints.injEq, SV.ptr.injEq, SV.sl.injEq, Value.string.injEq, Value.bool.injEq, List.map_cons, List.map_nil, forall_const, Nat.reduceLT, Nat.lt_add_one, imp_self, true_and, and_true, and_self, ob_some, get_mk, lk_cons, ↓reduceIte, Nat.reduceEqDiff, ne_eq, not_true_eq_false, not_false_eq_true, Nat.one_ne_zero, Nat.zero_ne_one, Nat.succ_ne_self, Nat.reduceAdd, Bool.false_eq_true, false_implies, implies_true, reduceCtorEq]
  rfl
theorem errS {s : ByteArray} {e : Int} {i : Nat} (hg : H.get i = some (rdO s e)) : SpecAt Tryz.prog nRErr [.ptr i 0] H n (.v (.int .i64 e)) H n := okT.pure tRErr (by
  unfold mRErr
  unfold rdO at hg
  simp -implicitDefEqProofs only [↓fnVC, initTm]
  simp -implicitDefEqProofs only [go_sem, hg])
def rawE (s : ByteArray) (e : Int) (k : Nat) : Int := if e ≠ 0 then e else if s.size < k then 2 else 0
def rawS (s : ByteArray) (e : Int) (k : Nat) : ByteArray := if e ≠ 0 ∨ s.size < k then s else s.extract k s.size
def rawT (s : ByteArray) (e : Int) (k : Nat) : ByteArray := if e ≠ 0 ∨ s.size < k then ⟨#[]⟩ else s.extract 0 k
theorem rawW {s : ByteArray} {e : Int} {k : Nat} (hk : k ≤ 1048576) : fnVC CT mRRaw [.ptr 1 0, .v (.int .i64 k)] ⟨[(1, some (rdO s e))], x⟩ 2 fun v H' n' => Sub 2 ⟨[(0, .v (.string (rawT s e k)))], ⟨[(1, some (rdO (rawS s e k) (rawE s e k)))], x⟩, 2⟩ ⟨[(0, v)], H', n'⟩ := by
  unfold mRRaw
  have g1 : decide ((k : Int) < 0) = false := decide_eq_false (by omega)
  simp -implicitDefEqProofs only [↓fnVC, initTm]
  simp -implicitDefEqProofs only [go_sem]
  refine at_call tRErr (errS (i := 1) (by rfl)) ?_
  by_cases he : e = 0
  · subst he
    have g0 : decide ((0 : Int) = 0) = true := rfl
    by_cases hs : s.size < k
    · have g2 : decide ((k : Int) > (s.size : Int)) = true := decide_eq_true (by omega)
      have r1 : rawT s 0 k = ⟨#[]⟩ := by unfold rawT; rw [if_pos (.inr hs)]
      have r2 : rawS s 0 k = s := by unfold rawS; rw [if_pos (.inr hs)]
      have r3 : rawE s 0 k = 2 := by unfold rawE; rw [if_neg (by simp), if_pos hs]
      simp -implicitDefEqProofs only [go_sem, g0, g1, g2, rdO]
      rw [r1, r2, r3]
      refine sub_mk [] rfl rfl rfl ?_
      simp only [tmSub, hpSub, objSub, eqTm, eqHp, rn, lk, SV.ren, SV.renC, SV.renB, SV.renA, ren_ints, ren_strs, ren_pl, ren_svs, SV.v.injEq, Value.int.injEq, Body.ints.injEq, SV.ptr.injEq, SV.sl.injEq, Value.string.injEq, Value.bool.injEq, List.map_cons, List.map_nil, forall_const, Nat.reduceLT, Nat.lt_add_one, imp_self, true_and, and_true, and_self, ob_some, get_mk, lk_cons, ↓reduceIte, Nat.reduceEqDiff, ne_eq, not_true_eq_false, not_false_eq_true, Nat.one_ne_zero, Nat.zero_ne_one, Nat.succ_ne_self, Nat.reduceAdd, Bool.false_eq_true, false_implies, implies_true, reduceCtorEq]
    · have g2 : decide ((k : Int) > (s.size : Int)) = false := decide_eq_false (by omega)
      have r1 : rawT s 0 k = s.extract 0 k := by unfold rawT; rw [if_neg (by simp; omega)]
      have r2 : rawS s 0 k = s.extract k s.size := by unfold rawS; rw [if_neg (by simp; omega)]
      have r3 : rawE s 0 k = 0 := by unfold rawE; rw [if_neg (by simp), if_neg hs]
      simp -implicitDefEqProofs only [go_sem, g0, g1, g2, rdO]
      rw [r1, r2, r3]
      refine ⟨⟨by omega, by omega⟩, ⟨by omega, by omega, by omega⟩, ?_⟩
      refine sub_mk [] rfl rfl rfl ?_
      simp only [tmSub, hpSub, objSub, eqTm, eqHp, rn, lk, SV.ren, SV.renC, SV.renB, SV.renA, ren_ints, ren_strs, ren_pl, ren_svs, SV.v.injEq, Value.int.injEq, Body.ints.injEq, SV.ptr.injEq, SV.sl.injEq, Value.string.injEq, Value.bool.injEq, List.map_cons, List.map_nil, forall_const, Nat.reduceLT, Nat.lt_add_one, imp_self, true_and, and_true, and_self, ob_some, get_mk, lk_cons, ↓reduceIte, Nat.reduceEqDiff, ne_eq, not_true_eq_false, not_false_eq_true, Nat.one_ne_zero, Nat.zero_ne_one, Nat.succ_ne_self, Nat.reduceAdd, Bool.false_eq_true, false_implies, implies_true, reduceCtorEq]
  · have g0 : decide (e = 0) = false := decide_eq_false he
    have r1 : rawT s e k = ⟨#[]⟩ := by unfold rawT; rw [if_pos (.inl he)]
    have r2 : rawS s e k = s := by unfold rawS; rw [if_pos (.inl he)]
    have r3 : rawE s e k = e := by unfold rawE; rw [if_pos he]
    simp -implicitDefEqProofs only [go_sem, g0, rdO]
    rw [r1, r2, r3]
    refine sub_mk [] rfl rfl rfl ?_
    simp only [tmSub, hpSub, objSub, eqTm, eqHp, rn, lk, SV.ren, SV.renC, SV.renB, SV.renA, ren_ints, ren_strs, ren_pl, ren_svs, SV.v.injEq, Value.int.injEq, Body.ints.injEq, SV.ptr.injEq, SV.sl.injEq, Value.string.injEq, Value.bool.injEq, List.map_cons, List.map_nil, forall_const, Nat.reduceLT, Nat.lt_add_one, imp_self, true_and, and_true, and_self, ob_some, get_mk, lk_cons, ↓reduceIte, Nat.reduceEqDiff, ne_eq, not_true_eq_false, not_false_eq_true, Nat.one_ne_zero, Nat.zero_ne_one, Nat.succ_ne_self, Nat.reduceAdd, Bool.false_eq_true, false_implies, implies_true, reduceCtorEq]
theorem rawSp {s : ByteArray} {e : Int} {k i : Nat} (hg : H.get i = some (rdO s e)) (hi : 0 < i ∧ i < 1000) (hk : k ≤ 1048576) :
    SpecAt Tryz.prog nRRaw [.ptr i 0, .v (.int .i64 k)] H n (.v (.string (rawT s e k))) ⟨(i, some (rdO (rawS s e k) (rawE s e k))) :: H.l, H.x⟩ n := by
  have := lift (n := n) (okT.spec tRRaw (rawW (x := H.x) (s := s) (e := e) hk)) [(1, i)] rfl rfl rfl (by omega) rfl rfl
    ⟨sub_wr rfl hi.1 hi.2 hg rfl, trivial⟩ (by simp [apartB, apart1, rn, lk]) (by simp [wrNZ, rn, lk]; omega) (by omega)
  exact this
def failE (e f : Int) : Int := if e = 0 then f else e
variable {H : Hp} {n : Nat} {x : Nat → Option SO}
def nbs (t : ByteArray) : List Nat := t.data.toList.map (·.toNat)
def nvl (l : List Nat) : Nat := l.foldl (fun a b => a * 256 + b) 0
def num (t : ByteArray) : Nat := nvl (nbs t)
theorem nbs_len {t : ByteArray} : (nbs t).length = t.size := by unfold nbs; rw [List.length_map]; rfl
theorem nbs_lt {t : ByteArray} : ∀ b ∈ nbs t, b < 256 := by
  intro b hb
  obtain ⟨c, _, rfl⟩ := List.mem_map.1 hb
  exact c.toNat_lt
theorem nvl_snoc {l : List Nat} {b : Nat} : nvl (l ++ [b]) = nvl l * 256 + b := by simp [nvl, List.foldl_append]
theorem bts_nbs {t : ByteArray} : bts t = (nbs t).map (fun b : Nat => (b : Int)) := by unfold bts nbs; rw [List.map_map]; rfl
theorem nvl_bound {l : List Nat} (h : ∀ b ∈ l, b < 256) : ∀ {j}, j ≤ l.length → nvl (l.take j) < 256 ^ j
  | 0, _ => by simp [nvl]
  | j + 1, hj => by
    have ih := nvl_bound h (j := j) (by omega)
    have hb := h (l[j]'(by omega)) (List.getElem_mem _)
    rw [List.take_succ_eq_append_getElem (by omega), nvl_snoc, Nat.pow_succ]; omega
theorem nvl_small {l : List Nat} (h : ∀ b ∈ l, b < 256) (h0 : l.getD 0 0 < 128) : ∀ {j}, j ≤ l.length → 1 ≤ j → nvl (l.take j) < 128 * 256 ^ (j - 1)
  | 1, hj, _ => by
    match l, hj, h0 with
    | b :: r, _, h0 => simpa [nvl] using h0
  | j + 2, hj, _ => by
    have ih := nvl_small h h0 (j := j + 1) (by omega) (by omega)
    have hb := h (l[j + 1]'(by omega)) (List.getElem_mem _)
    rw [List.take_succ_eq_append_getElem (by omega), nvl_snoc, show j + 2 - 1 = (j + 1 - 1) + 1 by omega, Nat.pow_succ]
    have : j + 1 - 1 = j := by omega
    rw [this] at ih ⊢
    omega
theorem ior_byte {a b : Nat} (ha : a < 36028797018963968) (hb : b < 256) : ior .i64 ((a * 256 : Nat) : Int) (b : Int) = ((a * 256 + b : Nat) : Int) := by
  show IntKind.i64.wrap ((BitVec.ofInt 64 ((a * 256 : Nat) : Int) ||| BitVec.ofInt 64 (b : Int)).toNat : Nat) = _
  have e : (BitVec.ofInt 64 ((a * 256 : Nat) : Int) ||| BitVec.ofInt 64 (b : Int)).toNat = a * 256 + b := by
    rw [BitVec.ofInt_natCast, BitVec.ofInt_natCast, BitVec.toNat_or, BitVec.toNat_ofNat, BitVec.toNat_ofNat, Nat.mod_eq_of_lt (by omega), Nat.mod_eq_of_lt (by omega)]
    have := Nat.shiftLeft_add_eq_or_of_lt (i := 8) (b := b) (by omega) a
    rw [Nat.shiftLeft_eq, show 2 ^ 8 = 256 from rfl] at this
    omega
  rw [e, wrap_i64 (by omega) (by omega)]
theorem ishl_8 {a : Nat} (ha : a < 36028797018963968) : ishl .i64 (a : Int) 8 = ((a * 256 : Nat) : Int) := by
  unfold ishl
  have hm : min (8 : Int).toNat IntKind.i64.bits = 8 := by decide
  rw [hm, show (2 : Int) ^ 8 = 256 from rfl, wrap_i64 (by omega) (by omega)]; omega
def numOK (t : ByteArray) : Prop := t.size ≤ 7 ∨ (t.size = 8 ∧ (nbs t).getD 0 0 < 128)
theorem numOK.lt {t : ByteArray} (h : numOK t) {j : Nat} (hj : j < t.size) : nvl ((nbs t).take j) < 36028797018963968 := by
  rcases h with h | ⟨h, h0⟩
  · have := nvl_bound (l := nbs t) nbs_lt (j := j) (by rw [nbs_len]; omega)
    have h6 : 256 ^ j ≤ 256 ^ 6 := Nat.pow_le_pow_right (by decide) (by omega)
    have : (256 : Nat) ^ 6 = 281474976710656 := by decide
    omega
  · by_cases hj0 : j = 0
    · subst hj0; simp [nvl]
    · have := nvl_small (l := nbs t) nbs_lt h0 (j := j) (by rw [nbs_len]; omega) (by omega)
      have h6 : 256 ^ (j - 1) ≤ 256 ^ 6 := Nat.pow_le_pow_right (by decide) (by omega)
      have : (256 : Nat) ^ 6 = 281474976710656 := by decide
      omega
theorem bts_getD {t : ByteArray} {j : Nat} (hj : j < t.size) : (bts t).getD j 0 = (((nbs t).getD j 0 : Nat) : Int) := by
  have hl := nbs_len (t := t)
  rw [bts_nbs, List.getD_eq_getElem?_getD, List.getElem?_map, List.getD_eq_getElem?_getD, List.getElem?_eq_getElem (by omega)]; rfl
theorem num_step {t : ByteArray} {j : Nat} (hj : j < t.size) : nvl ((nbs t).take (j + 1)) = nvl ((nbs t).take j) * 256 + (nbs t).getD j 0 := by
  have hl := nbs_len (t := t)
  rw [List.take_succ_eq_append_getElem (by omega), nvl_snoc, List.getD_eq_getElem?_getD, List.getElem?_eq_getElem (by omega)]; rfl
theorem nbs_get_lt {t : ByteArray} {j : Nat} (hj : j < t.size) : (nbs t).getD j 0 < 256 := by
  have hl := nbs_len (t := t)
  rw [List.getD_eq_getElem?_getD, List.getElem?_eq_getElem (by omega)]; exact nbs_lt _ (List.getElem_mem _)
theorem numW {s : ByteArray} {e : Int} {k : Nat} (hk : k ≤ 8) (hok : numOK (rawT s e k)) : fnVC CT mRNumber [.ptr 1 0, .v (.int .i64 k)] ⟨[(1, some (rdO s e))], x⟩ 2 fun v H' n' => Sub 2 ⟨[(0, .v (.int .i64 (num (rawT s e k) : Nat)))], ⟨[(1, some (rdO (rawS s e k) (rawE s e k)))], x⟩, 2⟩ ⟨[(0, v)], H', n'⟩ := by
  unfold mRNumber
  simp -implicitDefEqProofs only [↓fnVC, initTm]
  simp -implicitDefEqProofs only [go_sem]
  refine at_call tRRaw (rawSp (i := 1) (k := k) (by rfl) (by decide) (by omega)) ?_
  generalize hT : rawT s e k = T at hok ⊢
  have hsz : T.size ≤ 8 := by rcases hok with h | h <;> omega
  simp -implicitDefEqProofs only [go_sem]
  refine ⟨by omega, ?_⟩
  refine loop_fam (fun (j : Nat) => j ≤ T.size) (fun j => ⟨[(5, .v (.int .i64 (nvl ((nbs T).take j) : Nat))), (11, .sl 2 0 T.size 1), (12, .v (.int .i64 (T.size : Nat))), (13, .v (.int .i64 j))], ⟨[(1, some (rdO (rawS s e k) (rawE s e k))), (2, some ⟨true, .ints .u8 (bts T)⟩)], x⟩, 3⟩) (fun j => T.size - j) 0 (Nat.zero_le _) ?_ ?_
  · refine sub_mk [] rfl rfl rfl ?_
    simp only [tmSub, hpSub, objSub, eqTm, eqHp, rn, lk, SV.ren, SV.renC, SV.renB, SV.renA, ren_ints, ren_strs, ren_pl, ren_svs, SV.v.injEq, Value.int.injEq, Body.ints.injEq, SV.ptr.injEq, SV.sl.injEq, Value.string.injEq, Value.bool.injEq, List.map_cons, List.map_nil, forall_const, Nat.reduceLT, Nat.lt_add_one, imp_self, true_and, and_true, and_self, ob_some, get_mk, lk_cons, ↓reduceIte, Nat.reduceEqDiff, ne_eq, not_true_eq_false, not_false_eq_true, Nat.one_ne_zero, Nat.zero_ne_one, Nat.succ_ne_self, Nat.reduceAdd, Bool.false_eq_true, false_implies, implies_true, reduceCtorEq]
    exact ⟨⟨rfl, rfl⟩, rfl⟩
  · intro j hj
    simp -implicitDefEqProofs only [go_sem]
    refine condK_bb (fun c => ?_) (fun c => ?_)
    · have c1 : j < T.size := by have := of_decide_eq_true c; omega
      have hb := bts_getD c1
      have hlt := nbs_get_lt c1
      have hv := hok.lt c1
      have w1 := ishl_8 hv
      have w2 : IntKind.i64.wrap (((nbs T).getD j 0 : Nat) : Int) = (((nbs T).getD j 0 : Nat) : Int) := wrap_i64 (by omega) (by omega)
      have w3 := ior_byte hv hlt
      have w4 : IntKind.i64.wrap ((j : Int) + 1) = ((j + 1 : Nat) : Int) := by rw [wrap_i64 (by omega) (by omega)]; omega
      have hs := num_step c1
      simp -implicitDefEqProofs only [go_sem, c, hb, w1, w2, w3, w4]
      refine ⟨⟨by omega, by omega⟩, by rw [bts_len]; exact c1, ?_⟩
      refine kLoop_mk (j + 1) (by omega) (by omega) ?_
      refine sub_mk [] rfl rfl rfl ?_
      simp only [tmSub, hpSub, objSub, eqTm, eqHp, rn, lk, SV.ren, SV.renC, SV.renB, SV.renA, ren_ints, ren_strs, ren_pl, ren_svs, SV.v.injEq, Value.int.injEq, Body.ints.injEq, SV.ptr.injEq, SV.sl.injEq, Value.string.injEq, Value.bool.injEq, List.map_cons, List.map_nil, forall_const, Nat.reduceLT, Nat.lt_add_one, imp_self, true_and, and_true, and_self, ob_some, get_mk, lk_cons, ↓reduceIte, Nat.reduceEqDiff, ne_eq, not_true_eq_false, not_false_eq_true, Nat.one_ne_zero, Nat.zero_ne_one, Nat.succ_ne_self, Nat.reduceAdd, Bool.false_eq_true, false_implies, implies_true, reduceCtorEq, w4, hs]
      rfl
    · have c1 : j = T.size := by have := of_decide_eq_false c; omega
      subst c1
      have hn : nvl ((nbs T).take T.size) = num T := by unfold num; rw [List.take_of_length_le (by rw [nbs_len]; exact Nat.le_refl _)]
      simp -implicitDefEqProofs only [go_sem, c]
      rw [hn]
      refine sub_mk [] rfl rfl rfl ?_
      simp only [tmSub, hpSub, objSub, eqTm, eqHp, rn, lk, SV.ren, SV.renC, SV.renB, SV.renA, ren_ints, ren_strs, ren_pl, ren_svs, SV.v.injEq, Value.int.injEq, Body.ints.injEq, SV.ptr.injEq, SV.sl.injEq, Value.string.injEq, Value.bool.injEq, List.map_cons, List.map_nil, forall_const, Nat.reduceLT, Nat.lt_add_one, imp_self, true_and, and_true, and_self, ob_some, get_mk, lk_cons, ↓reduceIte, Nat.reduceEqDiff, ne_eq, not_true_eq_false, not_false_eq_true, Nat.one_ne_zero, Nat.zero_ne_one, Nat.succ_ne_self, Nat.reduceAdd, Bool.false_eq_true, false_implies, implies_true, reduceCtorEq]
      rfl
theorem numSp {s : ByteArray} {e : Int} {k i : Nat} (hg : H.get i = some (rdO s e)) (hi : 0 < i ∧ i < 1000) (hk : k ≤ 8) (hok : numOK (rawT s e k)) :
    SpecAt Tryz.prog nRNumber [.ptr i 0, .v (.int .i64 k)] H n (.v (.int .i64 (num (rawT s e k) : Nat))) ⟨(i, some (rdO (rawS s e k) (rawE s e k))) :: H.l, H.x⟩ n := by
  have := lift (n := n) (okT.spec tRNumber (numW (x := H.x) (s := s) (e := e) hk hok)) [(1, i)] rfl rfl rfl (by omega) rfl rfl
    ⟨sub_wr rfl hi.1 hi.2 hg rfl, trivial⟩ (by simp [apartB, apart1, rn, lk]) (by simp [wrNZ, rn, lk]; omega) (by omega)
  exact this
def preE (s : ByteArray) (e : Int) : Int := if e = 0 ∧ 8 ≤ s.size ∧ 128 ≤ (nbs s).getD 0 0 then 3 else e
end
end Go.Sx
/- Trees, at this program. -/
set_option linter.unusedVariables false
set_option linter.unusedSimpArgs false
set_option maxRecDepth 100000
namespace Go.Sx
open Go.Proofs
variable {H : Hp} {n : Nat} {x : Nat → Option SO}
theorem seq_ne {a b : ByteArray} (h : a ≠ b) : seq a b = false := by
  unfold seq
  rw [ByteArray.toList_eq, ByteArray.toList_eq, beq_eq_false_iff_ne]
  intro e
  obtain ⟨⟨p⟩⟩ := a
  obtain ⟨⟨q⟩⟩ := b
  simp at e
  subst e
  exact h rfl
variable {H : Hp} {n : Nat} {x : Nat → Option SO}
theorem tx_bts (s : ByteArray) : tx (bts s) = s := by
  obtain ⟨⟨l⟩⟩ := s
  simp [tx, bts, Function.comp_def]
theorem bts_ext (s : ByteArray) (a b : Nat) : bts (s.extract a b) = ((bts s).drop a).take (b - a) := by
  simp [bts, ByteArray.data_extract, List.extract_eq_take_drop, List.map_take, List.map_drop]
variable {H : Hp} {n : Nat} {x : Nat → Option SO}
theorem tx_app (l m : List Int) : tx (l ++ m) = tx l ++ tx m := by
  unfold tx
  rw [List.map_append]
  apply ByteArray.ext
  simp
variable {H : Hp} {n : Nat} {x : Nat → Option SO}
theorem rawT_size {s : ByteArray} {e : Int} {k : Nat} : (rawT s e k).size ≤ k := by
  unfold rawT
  split
  · exact Nat.zero_le _
  · rw [ByteArray.size_extract]; omega
theorem ext_ext {s : ByteArray} {k a b : Nat} (h : k + b ≤ s.size) : (s.extract k s.size).extract a b = s.extract (k + a) (k + b) := by
  have hb : ∀ {p q : ByteArray}, p.data = q.data → p = q := fun h => ByteArray.ext h
  apply hb
  simp only [ByteArray.data_extract, Array.extract_extract]
  congr 1
  omega
theorem rd_at {s : ByteArray} {k w : Nat} (h : k + w ≤ s.size) : rawS (s.extract k s.size) 0 w = s.extract (k + w) s.size ∧ rawE (s.extract k s.size) 0 w = 0 ∧ rawT (s.extract k s.size) 0 w = s.extract k (k + w) := by
  have hz : (s.extract k s.size).size = s.size - k := by rw [ByteArray.size_extract]; omega
  refine ⟨?_, ?_, ?_⟩
  · unfold rawS; rw [if_neg (by omega), hz, ext_ext (by omega)]; congr 1; omega
  · unfold rawE; rw [if_neg (by omega), if_neg (by omega)]
  · unfold rawT; rw [if_neg (by omega), ext_ext h]; rfl
theorem ext_all (s : ByteArray) : s.extract 0 s.size = s := by
  apply ByteArray.ext
  simp
theorem preadS {s : ByteArray} (hn : n + 1 ≤ 1000) : SpecAt Tryz.prog nPRead [.v (.string s)] H n (.ptr n 0) ⟨(n, some (rdO s 0)) :: H.l, H.x⟩ (n + 1) := by
  have := lift (n := n) (okT.spec tPRead (readW (x := H.x) (s := s))) [] rfl rfl rfl (by omega) rfl rfl trivial rfl rfl (by omega)
  exact this
variable {H : Hp} {n : Nat} {x : Nat → Option SO}
theorem bts_inj {s t : ByteArray} (h : bts s = bts t) : s = t := by
  have e : s.data.toList = t.data.toList := by
    unfold bts at h
    refine List.map_inj_right (f := fun b : UInt8 => (b.toNat : Int)) (fun a b hab => ?_) |>.1 h
    have : a.toNat = b.toNat := by exact_mod_cast hab
    exact UInt8.toNat_inj.1 this
  cases s; cases t
  congr 1
  exact Array.toList_inj.1 e
theorem nbs_of_bts {t : ByteArray} {l : List Nat} (h : bts t = l.map (fun b : Nat => (b : Int))) : nbs t = l := by
  have h2 := bts_nbs (t := t)
  rw [h] at h2
  exact (List.map_inj_right (f := fun b : Nat => (b : Int)) (fun a b hab => by exact_mod_cast hab)).1 h2.symm
def beN (y k : Nat) : List Nat := (List.range k).map fun j => y / 256 ^ (k - 1 - j) % 256
theorem be_beN {y k : Nat} : be y k = (beN y k).map fun b : Nat => (b : Int) := by unfold be beN; rw [List.map_map]; rfl
theorem beN_get {y k j : Nat} (h : j < k) : (beN y k)[j]? = some (y / 256 ^ (k - 1 - j) % 256) := by
  unfold beN; rw [List.getElem?_map, List.getElem?_range h]; rfl
theorem beN_len {y k : Nat} : (beN y k).length = k := by simp [beN]
theorem nvl_be {y k : Nat} (hy : y < 256 ^ k) : ∀ {j}, j ≤ k → nvl ((beN y k).take j) = y / 256 ^ (k - j)
  | 0, _ => by simp [nvl, Nat.div_eq_of_lt hy]
  | j + 1, h => by
    have hg := beN_get (y := y) (k := k) (j := j) (by omega)
    rw [List.take_add_one, hg]
    show nvl ((beN y k).take j ++ [_]) = _
    rw [nvl_snoc, nvl_be hy (j := j) (by omega), show k - j = (k - 1 - j) + 1 by omega, Nat.pow_succ, ← Nat.div_div_eq_div_mul, show k - (j + 1) = k - 1 - j by omega]
    omega
theorem num_be {t : ByteArray} {y k : Nat} (h : bts t = be y k) (hy : y < 256 ^ k) : num t = y := by
  have e : nbs t = beN y k := nbs_of_bts (by rw [h, be_beN])
  unfold num
  rw [e]
  have := nvl_be hy (j := k) (Nat.le_refl _)
  rw [List.take_of_length_le (by rw [beN_len]; exact Nat.le_refl _), Nat.sub_self, Nat.pow_zero, Nat.div_one] at this
  exact this
end Go.Sx
