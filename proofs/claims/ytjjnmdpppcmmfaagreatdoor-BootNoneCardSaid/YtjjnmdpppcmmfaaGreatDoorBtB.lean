/- maps.Clone, maps.Keys, slices.Sorted at a map's keys, by the shelf, in the symbolic heap. -/
import Derived.Test.YtjjnmdpppcmmfaaGreatDoorSxC
import Derived.Shelf.SlMaps.Clone
import Derived.Shelf.SlIter.Sorted
import Derived.Shelf.SortM.Plain
import Derived.Shelf.SortM.SortNone
import Derived.Test.YtjjnmdpppcmmfaaGreatDoorChecked
import Derived.Shelf.Strings.BuilderF
import Derived.Test.YtjjnmdpppcmmfaaGreatDoorBtA
import Derived.Laws.Strings

set_option linter.unusedVariables false
set_option linter.unusedSimpArgs false
namespace Go.Sx
open Go.Shelf Go.RowKit Go.Proofs Go.Maps Go.MapKept Go.WideElems
variable {P : Program} {σ : Go.Shelf.Ren} {H : Hp} {n : Nat}
theorem clone_S (L : SlLaysW.n5 P σ) {i : Nat} {es : List (Value × Value)} {s : SO} (hg : H.get i = some s) (hb : s.b = .mp (.map es)) (hn : n < 1000) :
    SpecAt P (σ.f 5) [.mp i] H n (.mp n) (H.put n ⟨true, .mp (.map es)⟩) (n + 1) := by
  intro F w0 w ρ xs hH hz hl
  match xs, hz with
  | [x], ⟨⟨b, hbl, hx⟩, _⟩ =>
    subst hx
    obtain ⟨b', ents, clk, e1, e2, e3, e4⟩ := map_obj hH hg hb
    rw [hbl] at e1; cases e1
    refine (AnyW.maps_Clone L b ents clk w e2).mono ?_
    rintro e w' ⟨rfl, rfl⟩
    have hnew := hH.alloc hn (.map ents clk) ⟨true, .mp (.map es)⟩ ⟨some w.heap.size, 0, 0, false, none⟩ rfl rfl ⟨_, ents, clk, rfl, heap_alloc_new w _, e3, e4⟩
    exact ⟨_, _, rfl, ⟨w.heap.size, by rw [upd_same], rfl⟩, by show idOK (n + 1) n = true; unfold idOK; simp, hnew, Ext.upd hn, Nat.le_succ _⟩
theorem keys_S (L : SlLaysZ.n7 P σ) {i : Nat} {s : SO} (hg : H.get i = some s) (hn : n + 1 < 1000) :
    SpecAt P (σ.f 7) [.mp i] H n (.fn (σ.f 10) [.ptr n 0]) ((H.put n ⟨true, .sv [.mp i]⟩).put (n + 1) ⟨false, .mp (.shp n (σ.t 23) (some 1))⟩) (n + 2) := by
  intro F w0 w ρ xs hH hz hl
  match xs, hz with
  | [x], ⟨hxr, _⟩ =>
    have hxr : arel ρ (.mp i) x := hxr
    obtain ⟨b, hbl, hx⟩ := hxr
    subst hx
    refine ((callsIn_wide (n := 6)).1 (AnyZ.keys_in L Fence.wide 6 trivial rfl (some b) w)).mono ?_
    rintro e w' ⟨rfl, rfl⟩
    have hid := (hH.lt i s hg).1
    obtain ⟨ρ', h1, h2, h3, h4⟩ := hH.newValsT hn (σ.t 23) [.map (some b)] (.sv [.mp i]) (by simp) (by simp [Body.lt, ltC, ltB, ltA, hid]) ⟨⟨b, hbl, rfl⟩, trivial⟩
    refine ⟨_, ρ', rfl, ?_, ?_, h1, h2, by omega⟩
    · exact ⟨[.pointer (some ⟨w.heap.size, 0, none⟩)], rfl, ⟨w.heap.size, h3, by rw [h4]⟩, trivial⟩
    · simp [ltT, ltC, ltB, ltA, idOK]
def keyB (e : Value × Value) : List UInt8 := match e.1 with
  | .string s => s.data.toList
  | _ => []
def srtK (es : List (Value × Value)) : List ByteArray := ((es.map keyB).mergeSort fun x y => decide (x ≤ y)).map fun l => ⟨⟨l⟩⟩
theorem HRel.addNew {F : Nat → Prop} {w0 w w' : World} {ρ : Nat → Loc} (h : HRel F w0 ρ n H w) (hb : Below w.heap.size w w') (hn : n < 1000) (s : SO) (l : Loc)
    (hbl : ∀ b, l.blk = some b → w.heap.size ≤ b ∧ b < w'.heap.size) (hlt : s.b.lt n = true) (hok : ObjOK ρ w' l s) (hsh : l.sh = none) : HRel F w0 (upd ρ n l) (n + 1) (H.put n s) w' := by
  have h' := h.below hb
  have hx : Ext n ρ (upd ρ n l) := Ext.upd hn
  have hr : ∀ i, i ≠ n → upd ρ n l i = ρ i := fun i hi => by simp [upd, hi]
  refine ⟨h'.os, h'.tape, h'.output, h'.size, h'.keep, h'.old, ?_, by omega, ?_, ?_, ?_, ?_, ?_, h'.xput hn, h'.shp.upd fun T c b e1 _ => (by rw [hsh] at e1; cases e1), h'.shk, h'.gl.upd hn⟩
  · rw [hr 0 (by have := h.pos; omega)]; exact h.nil
  · intro i s' hi
    rw [Hp.get_put] at hi
    split at hi
    · rename_i e; subst e; cases hi
      rw [upd_same]; exact ObjOK.ext hx hlt hok
    · rename_i e
      rw [hr i (Ne.symm e)]
      exact ObjOK.ext hx (h'.lt i s' hi).2 (h'.obj i s' hi)
  · intro i s' hi
    rw [Hp.get_put] at hi
    split at hi
    · rename_i e; subst e; cases hi
      exact ⟨by unfold idOK; simp, Body.lt_mono (Nat.le_succ _) hlt⟩
    · exact ⟨idOK_mono (Nat.le_succ _) (h.lt i s' hi).1, Body.lt_mono (Nat.le_succ _) (h.lt i s' hi).2⟩
  · intro i s' b hi hw hbk hF
    rw [Hp.get_put] at hi
    split at hi
    · rename_i e; subst e; rw [upd_same] at hbk
      have h1 := hbl b hbk
      have := h.old _ hF; have := h.size; omega
    · rename_i e
      rw [hr i (Ne.symm e)] at hbk
      exact h.own i s' b hi hw hbk hF
  · intro i j s1 s2 b hij hi hj hw hbk hbk'
    rw [Hp.get_put] at hi hj
    split at hi
    · rename_i e; subst e
      rw [if_neg hij] at hj
      rw [upd_same] at hbk
      rw [hr j (Ne.symm hij)] at hbk'
      have h1 := hbl b hbk
      have := h.live j s2 _ hj hbk'; omega
    · rename_i e
      rw [hr i (Ne.symm e)] at hbk
      split at hj
      · rename_i e'; subst e'; rw [upd_same] at hbk'
        have h1 := hbl b hbk'
        have := h.live i s1 _ hi hbk; omega
      · rename_i e'
        rw [hr j (Ne.symm e')] at hbk'
        exact h.inj i j s1 s2 b hij hi hj hw hbk hbk'
  · intro i s' b hi hbk
    rw [Hp.get_put] at hi
    split at hi
    · rename_i e; subst e; rw [upd_same] at hbk; exact (hbl b hbk).2
    · rename_i e
      rw [hr i (Ne.symm e)] at hbk
      exact h'.live i s' b hi hbk
theorem keyB_rg {k : TypeId} (hk : P.underlying k = some .string) {x : MapEntry} {s : ByteArray} (hx : x.key = .string s) (hs : s.size ≤ maxLen) :
    rd (H := Unit) P k (fun _ => some (.nil, [])) x = some (.string s.data.toList, .nil) := by
  have h1 : keyOf P k x.key = some (.string s.data.toList) := by
    rw [hx]
    simp [keyOf, mapKey, hk, hs]
  simp [rd, h1]
theorem sorted_S (L6 : SlLaysZ.n6 P σ) (L10 : SlLaysZ.n10 P σ) (hsort : ∀ m, AnyZ.SortsIn P σ Fence.wide m) (e9 : ∀ args w, (callFunc (σ.f 9) args).run P w = .ok (.enter (σ.f 9) args) w) (e10 : ∀ args w, (callFunc (σ.f 10) args).run P w = .ok (.enter (σ.f 10) args) w)
    {i j k : Nat} {es : List (Value × Value)} {s u t : SO} {T : Nat} {c0 : Option Nat} (hk : H.get k = some u) (hub : u.b = .sv [.mp i]) (hgh : H.get j = some t) (htb : t.b = .mp (.shp k T c0)) (hg : H.get i = some s) (hb : s.b = .mp (.map es))
    (hkeys : keysS es = true) (hsz : ∀ e ∈ es, (keyB e).length ≤ maxLen) (hlen : es.length ≤ 1000000) (hn : n < 1000) :
    SpecAt P (σ.f 6) [.fn (σ.f 10) [.ptr k 0]] H n (.sl n 0 es.length 1) (H.put n ⟨true, .strs (srtK es)⟩) (n + 1) := by
  intro F w0 w ρ xs hH hz hl
  match xs, hz with
  | [x], ⟨hxr, _⟩ =>
    obtain ⟨ys, hxe, hys⟩ := hxr
    subst hxe
    match ys, hys with
    | [y], ⟨hyr, _⟩ =>
      have hyr : arel ρ (.ptr k 0) y := hyr
      obtain ⟨b, hbk, hy⟩ := hyr
      have hgo := hH.obj j t hgh
      unfold ObjOK at hgo
      rw [htb] at hgo
      obtain ⟨h0, kk, hkk, _⟩ := hgo.2 (by rw [hbk]; simp)
      rw [h0, Nat.zero_add] at hy
      subst hy
      have hrow := obj_row hH hk (by rw [hub]; simp)
      rw [hub] at hrow
      simp only [RowOK, hbk] at hrow
      obtain ⟨ca, T', fr', q1, q2, q3, q4, q5⟩ := hrow
      obtain ⟨z, z1, z2⟩ := q4 0 (.mp i) rfl
      rw [h0, Nat.zero_add] at z1
      have z2 : arel ρ (.mp i) z := z2
      obtain ⟨bm, hbm, hz⟩ := z2
      subst hz
      obtain ⟨b', ents, clk, e1, e2, e3, e4⟩ := map_obj hH hg hb
      rw [hbm] at e1; cases e1
      have hstr := L10.t26
      have hlenE : ents.size = es.length := by rw [← e3]; simp [kvs]
      have hkey : ∀ x ∈ ents.toList, ∃ q : ByteArray, x.key = .string q ∧ q.size ≤ maxLen := by
        intro x hx
        have h1 : (x.key, x.val) ∈ es := by rw [← e3]; exact List.mem_map.2 ⟨x, hx, rfl⟩
        have h2 := List.all_eq_true.1 hkeys _ h1
        have h3 := hsz _ h1
        cases hq : x.key <;> simp [hq] at h2
        rename_i q
        refine ⟨q, rfl, ?_⟩
        simp only [hq, keyB] at h3
        rw [Array.length_toList] at h3
        exact h3
      have hreads : ∀ x ∈ ents.toList, ∃ y, rd (H := Unit) P (σ.t 26) (fun _ => some (.nil, [])) x = some y := fun x hx => by
        obtain ⟨q, h1, h2⟩ := hkey x hx
        exact ⟨_, keyB_rg hstr h1 h2⟩
      have hml : (1000000 : Nat) ≤ maxLen := by decide
      have hown : w.ownsMap P (σ.t 26) (fun _ => some ((.nil : DataW Unit), [])) bm ents.size (.map ((ents.toList.map (rg P (σ.t 26) (fun _ => some (.nil, [])))).foldr DataW.insert [])) :=
        ⟨ents, clk, e2, ⟨by omega, e4, hreads⟩, Nat.le_refl _, rfl⟩
      have hsizeD := hown.size_le
      have hBlt : b < w.heap.size := (Array.getElem?_eq_some_iff.1 q1).1
      have hseq := AnyZ.keys_gives L10 Fence.wide 8 trivial rfl (by decide) b bm ents.size _ w hBlt (by rw [cell_of q1, z1]) hown
      generalize hD : (DataW.map ((ents.toList.map (rg P (σ.t 26) (fun _ => some ((.nil : DataW Unit), [])))).foldr DataW.insert [])) = D0 at hown hsizeD hseq
      have hsorted := AnyZ.sorted_in L6 Fence.wide 11 trivial trivial trivial trivial rfl (by decide) (hsort 10) e9 (σ.f 10) #[.pointer (some ⟨b, 0, none⟩)] trivial e10 _ (Maps.size D0) (by omega) (by omega) w hseq
      refine ((callsIn_wide (n := 11)).1 hsorted).mono ?_
      rintro e w' ⟨v, ss, rfl, hperm, hrow, hnil, hB⟩
      have hpk : ss.Perm (es.map keyB) := by
        refine hperm.trans ?_
        rw [← hD]
        show ((ents.toList.map (rg P (σ.t 26) (fun _ => some ((.nil : DataW Unit), [])))).foldr DataW.insert []).map (fun p => Go.strOf p.1) |>.Perm _
        refine (List.Perm.map _ (Go.WideShapes.sorted_perm _)).trans ?_
        rw [List.map_map, ← e3]
        unfold kvs
        rw [List.map_map]
        refine List.Perm.of_eq (List.map_congr_left fun x hx => ?_)
        obtain ⟨q, h1, h2⟩ := hkey x hx
        show Go.strOf (rg P (σ.t 26) (fun _ => some ((.nil : DataW Unit), [])) x).1 = keyB (x.key, x.val)
        rw [rg_of (keyB_rg hstr h1 h2), h1]
        rfl
      have hms : ss.mergeSort (fun x y => decide (x ≤ y)) = (es.map keyB).mergeSort fun x y => decide (x ≤ y) := mergeSort_of_perm hpk
      have hsl : ss.length = es.length := by rw [hpk.length_eq, List.length_map]
      have hkl : (srtK es).length = es.length := by unfold srtK; rw [List.length_map, List.length_mergeSort, List.length_map]
      have hcells : (ss.mergeSort (fun x y => decide (x ≤ y))).map encStr = (srtK es).map Value.string := by
        rw [hms]; unfold srtK; rw [List.map_map]; rfl
      rw [hcells, hsl] at hrow
      rcases hrow.2 with ⟨rfl, hz0⟩ | ⟨g, cap, cur, rfl, hbase, hgb, r1, r2, r3, r4⟩
      · have hnew := hH.addNew hB hn ⟨true, .strs (srtK es)⟩ ⟨none, 0, 0, true, none⟩ (by simp) (by simp [Body.lt]) (ObjOK.mk (by simp) (by
          show Body.cells (.strs (srtK es)) = []
          have : srtK es = [] := List.eq_nil_of_length_eq_zero (by omega)
          rw [this]; rfl) (by intro h; exact absurd rfl h)) rfl
        refine ⟨_, _, rfl, ?_, lt_new_sl, hnew, Ext.upd hn, Nat.le_succ _⟩
        show slrel (upd ρ n _ n) 0 es.length 1 _
        rw [upd_same]
        exact ⟨by omega, .inl rfl⟩
      · have hnew := hH.addNew hB hn ⟨true, .strs (srtK es)⟩ ⟨some g, 0, cap, true, none⟩ (by
            intro b hb; cases hb; exact ⟨hbase, (Array.getElem?_eq_some_iff.1 hgb).1⟩) (by simp [Body.lt]) (ObjOK.mk (by simp) (by
          show ∃ c T fr, w'.heap[g]? = some (.cells c T fr) ∧ _
          refine ⟨cur, _, _, hgb, by show 0 + cap ≤ _; omega, by show (Body.cells (.strs (srtK es))).length ≤ cap; simp [Body.cells]; omega, ?_, ?_⟩
          · intro j x hx
            rw [Nat.mul_one] at r4
            simp only [Body.cells, List.getElem?_map, Option.map_eq_some_iff] at hx
            obtain ⟨q, hq, rfl⟩ := hx
            have hj : j < es.length := by have := (List.getElem?_eq_some_iff.1 hq).1; omega
            refine ⟨.string q, ?_, rfl⟩
            have h1 : (cur.toList.take es.length)[j]? = ((srtK es).map Value.string)[j]? := by rw [r4]
            rw [List.getElem?_take_of_lt hj, List.getElem?_map, hq, Array.getElem?_toList] at h1
            show cur[0 + j]? = _
            rw [Nat.zero_add]
            exact h1
          · intro _ j _ h
            exact absurd h.2 (by simp)) (by intro _; show (true = true → true = true); intro _; rfl)) rfl
        refine ⟨_, _, rfl, ?_, lt_new_sl, hnew, Ext.upd hn, Nat.le_succ _⟩
        show slrel (upd ρ n _ n) 0 es.length 1 _
        rw [upd_same]
        exact ⟨cap, 0, r1, ⟨by show 0 + cap * 1 ≤ cap; omega, fun _ => by show 0 + cap * 1 = cap; omega⟩, fun _ => rfl, rfl⟩
end Go.Sx

/- maps.Clone, maps.Keys, slices.Sorted at this program. -/
set_option linter.unusedVariables false
set_option linter.unusedSimpArgs false
set_option maxRecDepth 100000
namespace Go.Proofs
open Go.Shelf Go.RowKit Go.Sx
def layZ_ren : Go.Shelf.Ren := ⟨fun | 6 => 119 | 8 => 132 | 9 => 133 | 11 => 140 | 13 => 142 | 12 => 141 | 23 => 155 | 24 => 156 | 14 => 146 | 15 => 147 | 16 => 148 | 17 => 149 | 18 => 150 | 19 => 151 | 20 => 152 | 21 => 153 | 22 => 154 | 25 => 159 | 26 => 160 | 27 => 161 | 28 => 162 | 29 => 163 | 30 => 164 | 31 => 165 | 7 => 120 | 10 => 134 | n => n, fun | 26 => 9 | 28 => 182 | 24 => 70 | 0 => 0 | 3 => 93 | 37 => 179 | 48 => 190 | 50 => 163 | 4 => 4 | 40 => 207 | 39 => 206 | 45 => 169 | 5 => 5 | 9 => 9 | 51 => 215 | 55 => 219 | 57 => 221 | 58 => 222 | 33 => 127 | 23 => 81 | 27 => 181 | n => n, fun n => n⟩
theorem layS : SlLaysZ.n6 Tryz.prog layZ_ren where
  mixed := by kernel_rfl
  f6 := ⟨Tryz.f119.name, by kernel_rfl, Tryz.func119.trans (congrArg some (by kernel_rfl))⟩
  f8 := ⟨Tryz.f132.name, by kernel_rfl, Tryz.func132.trans (congrArg some (by kernel_rfl))⟩
  f11 := ⟨Tryz.f140.name, by kernel_rfl, Tryz.func140.trans (congrArg some (by kernel_rfl))⟩
  t0 := Tryz.underlying0
  a0 := Tryz.isAgg0
  z0 := Tryz.sizeOf0
  v0 := Tryz.zeroValue0
  t24 := Tryz.underlying70
  a24 := Tryz.isAgg70
  z24 := Tryz.sizeOf70
  v24 := Tryz.zeroValue70
  t26 := Tryz.underlying9
  a26 := Tryz.isAgg9
  z26 := Tryz.sizeOf9
  v26 := Tryz.zeroValue9
  t28 := Tryz.underlying182
  a28 := Tryz.isAgg182
  z28 := Tryz.sizeOf182
  v28 := Tryz.zeroValue182
  i26 := by kernel_rfl
theorem layK : SlLaysZ.n7 Tryz.prog layZ_ren where
  mixed := by kernel_rfl
  f7 := ⟨Tryz.f120.name, by kernel_rfl, Tryz.func120.trans (congrArg some (by kernel_rfl))⟩
  f10 := ⟨Tryz.f134.name, by kernel_rfl, Tryz.func134.trans (congrArg some (by kernel_rfl))⟩
  t0 := Tryz.underlying0
  a0 := Tryz.isAgg0
  z0 := Tryz.sizeOf0
  v0 := Tryz.zeroValue0
  t4 := Tryz.underlying4
  a4 := Tryz.isAgg4
  z4 := Tryz.sizeOf4
  v4 := Tryz.zeroValue4
  t23 := Tryz.underlying81
  a23 := Tryz.isAgg81
  z23 := Tryz.sizeOf81
  v23 := Tryz.zeroValue81
  t26 := Tryz.underlying9
  a26 := Tryz.isAgg9
  z26 := Tryz.sizeOf9
  v26 := Tryz.zeroValue9
  t27 := Tryz.underlying181
  a27 := Tryz.isAgg181
  z27 := Tryz.sizeOf181
  v27 := Tryz.zeroValue181
  t28 := Tryz.underlying182
  a28 := Tryz.isAgg182
  z28 := Tryz.sizeOf182
  v28 := Tryz.zeroValue182
  t33 := Tryz.underlying127
  a33 := Tryz.isAgg127
  z33 := Tryz.sizeOf127
  v33 := Tryz.zeroValue127
theorem layK1 : SlLaysZ.n10 Tryz.prog layZ_ren where
  mixed := by kernel_rfl
  f10 := ⟨Tryz.f134.name, by kernel_rfl, Tryz.func134.trans (congrArg some (by kernel_rfl))⟩
  t0 := Tryz.underlying0
  a0 := Tryz.isAgg0
  z0 := Tryz.sizeOf0
  v0 := Tryz.zeroValue0
  t4 := Tryz.underlying4
  a4 := Tryz.isAgg4
  z4 := Tryz.sizeOf4
  v4 := Tryz.zeroValue4
  t23 := Tryz.underlying81
  a23 := Tryz.isAgg81
  z23 := Tryz.sizeOf81
  v23 := Tryz.zeroValue81
  t26 := Tryz.underlying9
  a26 := Tryz.isAgg9
  z26 := Tryz.sizeOf9
  v26 := Tryz.zeroValue9
  t33 := Tryz.underlying127
  a33 := Tryz.isAgg127
  z33 := Tryz.sizeOf127
  v33 := Tryz.zeroValue127
def layC_ren : Go.Shelf.Ren := ⟨fun | 5 => 49 | 7 => 90 | n => n, fun | 23 => 81 | 25 => 9 | 3 => 93 | 4 => 4 | 20 => 20 | n => n, fun n => n⟩
theorem layC : SlLaysW.n5 Tryz.prog layC_ren where
  mixed := by kernel_rfl
  f5 := ⟨Tryz.f49.name, by kernel_rfl, Tryz.func49.trans (congrArg some (by kernel_rfl))⟩
  f7 := Tryz.func90.trans (congrArg some (by kernel_rfl))
  t4 := Tryz.underlying4
  a4 := Tryz.isAgg4
  z4 := Tryz.sizeOf4
  v4 := Tryz.zeroValue4
  t20 := Tryz.underlying20
  a20 := Tryz.isAgg20
  z20 := Tryz.sizeOf20
  v20 := Tryz.zeroValue20
  t23 := Tryz.underlying81
  a23 := Tryz.isAgg81
  z23 := Tryz.sizeOf81
  v23 := Tryz.zeroValue81
def laySo_ren : Go.Shelf.Ren := ⟨fun | 6 => 133 | 8 => 142 | 9 => 141 | 19 => 155 | 20 => 156 | 21 => 146 | 22 => 147 | 23 => 148 | 24 => 149 | 25 => 150 | 26 => 151 | 27 => 152 | 28 => 153 | 29 => 154 | 36 => 159 | 31 => 160 | 32 => 161 | 37 => 162 | 38 => 163 | 39 => 164 | 41 => 165 | n => n, fun | 27 => 70 | 29 => 9 | 3 => 3 | 32 => 179 | 26 => 70 | 0 => 0 | 44 => 190 | 46 => 163 | 4 => 4 | 36 => 207 | 35 => 206 | 41 => 169 | 5 => 5 | 9 => 9 | 53 => 215 | 57 => 219 | 63 => 221 | 64 => 222 | n => n, fun n => n⟩
theorem laySo : SlLaysM.n6 Tryz.prog laySo_ren where
  mixed := by kernel_rfl
  f6 := ⟨Tryz.f133.name, by kernel_rfl, Tryz.func133.trans (congrArg some (by kernel_rfl))⟩
  f8 := Tryz.func142.trans (congrArg some (by kernel_rfl))
  f9 := ⟨Tryz.f141.name, by kernel_rfl, Tryz.func141.trans (congrArg some (by kernel_rfl))⟩
  f19 := Tryz.func155.trans (congrArg some (by kernel_rfl))
  f20 := Tryz.func156.trans (congrArg some (by kernel_rfl))
  f21 := ⟨Tryz.f146.name, by kernel_rfl, Tryz.func146.trans (congrArg some (by kernel_rfl))⟩
  f22 := ⟨Tryz.f147.name, by kernel_rfl, Tryz.func147.trans (congrArg some (by kernel_rfl))⟩
  f23 := ⟨Tryz.f148.name, by kernel_rfl, Tryz.func148.trans (congrArg some (by kernel_rfl))⟩
  f24 := ⟨Tryz.f149.name, by kernel_rfl, Tryz.func149.trans (congrArg some (by kernel_rfl))⟩
  f25 := ⟨Tryz.f150.name, by kernel_rfl, Tryz.func150.trans (congrArg some (by kernel_rfl))⟩
  f26 := ⟨Tryz.f151.name, by kernel_rfl, Tryz.func151.trans (congrArg some (by kernel_rfl))⟩
  f27 := ⟨Tryz.f152.name, by kernel_rfl, Tryz.func152.trans (congrArg some (by kernel_rfl))⟩
  f28 := ⟨Tryz.f153.name, by kernel_rfl, Tryz.func153.trans (congrArg some (by kernel_rfl))⟩
  f29 := ⟨Tryz.f154.name, by kernel_rfl, Tryz.func154.trans (congrArg some (by kernel_rfl))⟩
  f31 := Tryz.func160.trans (congrArg some (by kernel_rfl))
  f32 := Tryz.func161.trans (congrArg some (by kernel_rfl))
  f36 := ⟨Tryz.f159.name, by kernel_rfl, Tryz.func159.trans (congrArg some (by kernel_rfl))⟩
  f37 := ⟨Tryz.f162.name, by kernel_rfl, Tryz.func162.trans (congrArg some (by kernel_rfl))⟩
  f38 := ⟨Tryz.f163.name, by kernel_rfl, Tryz.func163.trans (congrArg some (by kernel_rfl))⟩
  f39 := ⟨Tryz.f164.name, by kernel_rfl, Tryz.func164.trans (congrArg some (by kernel_rfl))⟩
  f41 := ⟨Tryz.f165.name, by kernel_rfl, Tryz.func165.trans (congrArg some (by kernel_rfl))⟩
  t0 := Tryz.underlying0
  a0 := Tryz.isAgg0
  z0 := Tryz.sizeOf0
  v0 := Tryz.zeroValue0
  t3 := Tryz.underlying3
  a3 := Tryz.isAgg3
  z3 := Tryz.sizeOf3
  v3 := Tryz.zeroValue3
  t4 := Tryz.underlying4
  a4 := Tryz.isAgg4
  z4 := Tryz.sizeOf4
  v4 := Tryz.zeroValue4
  t5 := Tryz.underlying5
  a5 := Tryz.isAgg5
  z5 := Tryz.sizeOf5
  v5 := Tryz.zeroValue5
  t9 := Tryz.underlying9
  a9 := Tryz.isAgg9
  z9 := Tryz.sizeOf9
  v9 := Tryz.zeroValue9
  t26 := Tryz.underlying70
  a26 := Tryz.isAgg70
  z26 := Tryz.sizeOf70
  v26 := Tryz.zeroValue70
  t27 := Tryz.underlying70
  a27 := Tryz.isAgg70
  z27 := Tryz.sizeOf70
  v27 := Tryz.zeroValue70
  t29 := Tryz.underlying9
  a29 := Tryz.isAgg9
  z29 := Tryz.sizeOf9
  v29 := Tryz.zeroValue9
  t32 := Tryz.underlying179
  a32 := Tryz.isAgg179
  z32 := Tryz.sizeOf179
  v32 := Tryz.zeroValue179
  t35 := Tryz.underlying206
  a35 := Tryz.isAgg206
  z35 := Tryz.sizeOf206
  v35 := Tryz.zeroValue206
  t36 := Tryz.underlying207
  a36 := Tryz.isAgg207
  z36 := Tryz.sizeOf207
  v36 := Tryz.zeroValue207
  t41 := Tryz.underlying169
  a41 := Tryz.isAgg169
  z41 := Tryz.sizeOf169
  v41 := Tryz.zeroValue169
  t44 := Tryz.underlying190
  a44 := Tryz.isAgg190
  z44 := Tryz.sizeOf190
  v44 := Tryz.zeroValue190
  t46 := Tryz.underlying163
  a46 := Tryz.isAgg163
  z46 := Tryz.sizeOf163
  v46 := Tryz.zeroValue163
  t53 := Tryz.underlying215
  a53 := Tryz.isAgg215
  z53 := Tryz.sizeOf215
  v53 := Tryz.zeroValue215
  t57 := Tryz.underlying219
  a57 := Tryz.isAgg219
  z57 := Tryz.sizeOf219
  v57 := Tryz.zeroValue219
  t63 := Tryz.underlying221
  a63 := Tryz.isAgg221
  z63 := Tryz.sizeOf221
  v63 := Tryz.zeroValue221
  t64 := Tryz.underlying222
  a64 := Tryz.isAgg222
  z64 := Tryz.sizeOf222
  v64 := Tryz.zeroValue222
theorem sortsZ (m : Nat) : AnyZ.SortsIn Tryz.prog layZ_ren Fence.wide m :=
  ⟨fun blk off cap ss W hH hblk hsz => callsIn_wide.2 (AnyM.slices_Sort_string laySo blk off cap ss W hH hblk hsz), fun p cap W => callsIn_wide.2 (AnyM.slices_Sort_string_none laySo p cap W)⟩
variable {H : Hp} {n : Nat}
theorem cloneT {i : Nat} {es : List (Value × Value)} {s : SO} (hg : H.get i = some s) (hb : s.b = .mp (.map es)) (hn : n < 1000) :
    SpecAt Tryz.prog 49 [.mp i] H n (.mp n) (H.put n ⟨true, .mp (.map es)⟩) (n + 1) := clone_S layC hg hb hn
theorem keysT {i : Nat} {s : SO} (hg : H.get i = some s) (hn : n + 1 < 1000) :
    SpecAt Tryz.prog 120 [.mp i] H n (.fn 134 [.ptr n 0]) ((H.put n ⟨true, .sv [.mp i]⟩).put (n + 1) ⟨false, .mp (.shp n 81 (some 1))⟩) (n + 2) := keys_S layK hg hn
theorem sortedT {i j k : Nat} {es : List (Value × Value)} {s u t : SO} {T : Nat} {c0 : Option Nat} (hk : H.get k = some u) (hub : u.b = .sv [.mp i]) (hgh : H.get j = some t) (htb : t.b = .mp (.shp k T c0)) (hg : H.get i = some s) (hb : s.b = .mp (.map es))
    (hkeys : keysS es = true) (hsz : ∀ e ∈ es, (keyB e).length ≤ maxLen) (hlen : es.length ≤ 1000000) (hn : n < 1000) :
    SpecAt Tryz.prog 119 [.fn 134 [.ptr k 0]] H n (.sl n 0 es.length 1) (H.put n ⟨true, .strs (srtK es)⟩) (n + 1) :=
  sorted_S layS layK1 sortsZ (laySo.f6.enters rfl) (layK1.f10.enters rfl) hk hub hgh htb hg hb hkeys hsz hlen hn
end Go.Proofs

/- strings.Builder, wherever it lies: copyCheck, String. -/
set_option linter.unusedVariables false
set_option linter.unusedSimpArgs false
namespace Go.Proofs
open Go.Shelf Go.RowKit
variable {P : Program} {ρ : Ren}
set_option maxHeartbeats 1000000 in
set_option maxRecDepth 100000 in
theorem ck_used (L : Lays.n240 P ρ) (X : Builder.X72 P ρ) (b o : Nat) (w : World) (h0 : w.cell? ⟨b, o, none⟩ = some (.pointer (some ⟨b, o, none⟩))) :
    Calls P (ρ.f 240) #[.pointer (some ⟨b, o, none⟩)] w fun e w' => e = .returned (.tuple #[]) ∧ w' = w := by
  obtain ⟨j, hj, _⟩ := Option.map_eq_some_iff.1 X.sizeBuilder
  have mixed := L.mixed
  have t72 := L.t72; have a72 := L.a72; have z72 := L.z72; have v72 := L.v72; have u72 := run_underlying L.t72
  have t70 := L.t70; have a70 := L.a70; have z70 := L.z70; have v70 := L.v70; have u70 := run_underlying L.t70
  have t9 := L.t9; have a9 := L.a9; have z9 := L.z9; have v9 := L.v9; have u9 := run_underlying L.t9
  have t4 := L.t4; have a4 := L.a4; have z4 := L.z4; have v4 := L.v4; have u4 := run_underlying L.t4
  have t164 := L.t164; have a164 := L.a164; have z164 := L.z164; have v164 := L.v164; have u164 := run_underlying L.t164
  go_enter L.f240, Body.n240_ntmps ρ
  go_wp2
  rw [Lib.run_neq_ptr_same w _ L.t70 hj]
  go_wp2
  go_end0
  exact ⟨rfl, rfl⟩
set_option maxHeartbeats 1000000 in
set_option maxRecDepth 100000 in
theorem ck_fresh (L : Lays.n240 P ρ) (X : Builder.X72 P ρ) (b o T c : Nat) (w : World) (h0 : w.cell? ⟨b, o, none⟩ = some (.pointer none)) (hsh : w.shape? b = some (T, c)) (hoc : o < c) (hlies : liesAt P P.depth T (c / P.cellsOf T) o (ρ.t 72) 1 = true) (hfz : w.frozen? ⟨b, o, none⟩ = false) :
    Calls P (ρ.f 240) #[.pointer (some ⟨b, o, none⟩)] w fun e w' => e = .returned (.tuple #[]) ∧ w' = w.setCell ⟨b, o, none⟩ (.pointer (some ⟨b, o, none⟩)) := by
  obtain ⟨j, hj, hjs⟩ := Option.map_eq_some_iff.1 X.sizeBuilder
  have mixed := L.mixed
  have t72 := L.t72; have a72 := L.a72; have z72 := L.z72; have v72 := L.v72; have u72 := run_underlying L.t72
  have t70 := L.t70; have a70 := L.a70; have z70 := L.z70; have v70 := L.v70; have u70 := run_underlying L.t70
  have t9 := L.t9; have a9 := L.a9; have z9 := L.z9; have v9 := L.v9; have u9 := run_underlying L.t9
  have t4 := L.t4; have a4 := L.a4; have z4 := L.z4; have v4 := L.v4; have u4 := run_underlying L.t4
  have t164 := L.t164; have a164 := L.a164; have z164 := L.z164; have v164 := L.v164; have u164 := run_underlying L.t164
  go_enter L.f240, Body.n240_ntmps ρ
  go_wp2
  rw [Lib.run_to_unsafe w ⟨b, o, none⟩ L.t70 L.t164 hj (by rw [hjs]; decide) hsh hoc]
  simp only [Result.andThen]
  rw [Oper.upon_value]
  go_wp2
  rw [run_callFunc_extern L.f276 (by kernel_rfl) (by kernel_rfl) (by kernel_rfl) (e := Extern.AbiNoEscape.same) (by kernel_rfl)]
  rw [Lib.run_noEscape]
  simp only [Result.andThen]
  rw [Oper.upon_value]
  go_wp2
  rw [Lib.run_from_unsafe w ⟨b, o, none⟩ L.t164 L.t70 hj hsh hlies]
  simp only [Result.andThen]
  rw [Oper.upon_value]
  go_wp2
  go_end0
  exact ⟨rfl, rfl⟩
set_option maxHeartbeats 1000000 in
set_option maxRecDepth 100000 in
theorem str_some (L : Lays.n169 P ρ) (X : Builder.Extra P ρ) (b o g cap c : Nat) (l : List UInt8) (w : World) (h0 : l ≠ []) (k1 : w.cell? ⟨b, o + 1, none⟩ = some (.slice (some ⟨g, 0, none⟩) l.length cap)) (hcap : l.length ≤ cap) (hsh : w.shape? g = some (ρ.t 5, c)) (hlc : l.length ≤ c) (h63 : l.length ≤ 9223372036854775807)
    (hcell : ∀ j x, l[j]? = some x → w.cell? ((⟨g, 0, none⟩ : Addr).add j) = some (.int .u8 x.toNat)) :
    Calls P (ρ.f 169) #[.pointer (some ⟨b, o, none⟩)] w fun e w' => e = .returned (.string ⟨l.toArray⟩) ∧ w' = w.drew.freeze ⟨g, 0, none⟩ l.length := by
  have hl0 : l.length ≠ 0 := by simpa using h0
  have c1 : w.drew.cell? ⟨b, o + 1, none⟩ = some (.slice (some ⟨g, 0, none⟩) l.length cap) := k1
  have hSD : (Builtin.unsafeSliceData_ #[(ρ.t 37)] (ρ.t 127) #[.slice (some ⟨g, 0, none⟩) l.length cap]).run P w.drew = .ok (.pointer (some ⟨g, 0, none⟩)) w.drew :=
    Lib.run_unsafeSliceData_row _ _ _ _ _ _ (by omega)
  have hUS : (Builtin.unsafeString_ #[(ρ.t 127), (ρ.t 3)] (ρ.t 9) #[.pointer (some ⟨g, 0, none⟩), .int .i64 l.length]).run P w.drew = .ok (.string ⟨l.toArray⟩) (w.drew.freeze ⟨g, 0, none⟩ l.length) :=
    Lib.run_unsafeString_row w.drew (ρ.t 127) (ρ.t 3) (ρ.t 9) (ρ.t 5) L.t127 X.cellsByte g c hsh l h0 hlc h63 hcell
  have mixed := L.mixed
  have t72 := L.t72; have a72 := L.a72; have z72 := L.z72; have v72 := L.v72; have u72 := run_underlying L.t72
  have t70 := L.t70; have a70 := L.a70; have z70 := L.z70; have v70 := L.v70; have u70 := run_underlying L.t70
  have t37 := L.t37; have a37 := L.a37; have z37 := L.z37; have v37 := L.v37; have u37 := run_underlying L.t37
  have t127 := L.t127; have a127 := L.a127; have z127 := L.z127; have v127 := L.v127; have u127 := run_underlying L.t127
  have t3 := L.t3; have a3 := L.a3; have z3 := L.z3; have v3 := L.v3; have u3 := run_underlying L.t3
  have t9 := L.t9; have a9 := L.a9; have z9 := L.z9; have v9 := L.v9; have u9 := run_underlying L.t9
  have t5 := X.t5; have a5 := X.a5; have z5 := X.z5; have v5 := X.v5; have u5 := run_underlying X.t5
  go_enter L.f169, Body.n169_ntmps ρ
  go_wp2
  go_region_o
  all_goals (go_wp2; go_ret; exact ⟨rfl, rfl⟩)
end Go.Proofs

/- strings.Builder in the symbolic heap. -/
set_option linter.unusedVariables false
set_option linter.unusedSimpArgs false
namespace Go.Sx
open Go.Shelf Go.RowKit Go.Proofs
variable {P : Program} {σ : Ren} {H : Hp} {n : Nat}
theorem ck_fresh_S (L : Lays.n240 P σ) (X : Builder.X72 P σ) {i j o T c : Nat} {cs cs' : List SV} {s : SO} (hg : H.get i = some ⟨true, .sv cs⟩) (hc : cs[o]? = some (.v (.pointer none))) (hj : H.get j = some s) (hs : s.b = .mp (.shp i T (some c)))
    (hoc : o < c) (hlies : liesAt P P.depth T (c / P.cellsOf T) o (σ.t 72) 1 = true) (hcs : splice cs o [.ptr i o] = cs') :
    SpecAt P (σ.f 240) [.ptr i o] H n (.tup []) (H.put i ⟨true, .sv cs'⟩) n := by
  intro F w0 w ρ xs hH hz hl
  match xs, hz with
  | [x], ⟨⟨b, hb, hx⟩, _⟩ =>
    have hgh := hH.obj j s hj
    unfold ObjOK at hgh
    rw [hs] at hgh
    obtain ⟨h0, k, hk, hck⟩ := hgh.2 (by rw [hb]; simp)
    obtain rfl := hck c rfl
    obtain ⟨ca, fr, e1, e2⟩ := hH.shp i T c b hk hb
    rw [h0, Nat.zero_add] at hx
    subst hx
    have hr := obj_row hH hg (by simp)
    have hr' := hr
    simp only [RowOK, hb] at hr'
    obtain ⟨ca', T', fr', q1, q2, q3, q4, q5⟩ := hr'
    rw [e1] at q1; cases q1
    have holt : o < cs.length := (List.getElem?_eq_some_iff.1 hc).1
    obtain ⟨y, y1, y2⟩ := q4 o _ hc
    rw [h0, Nat.zero_add] at y1
    have y2 : y = .pointer none := y2
    subst y2
    have hfz : w.frozen? ⟨b, o, none⟩ = false := by
      have := q5 trivial o (by have : cs.length ≤ (ρ i).size := q3; omega)
      rw [h0, Nat.zero_add] at this
      simp only [World.frozen?, e1]
      simp; omega
    refine (ck_fresh L X b o T c w (by rw [cell_of e1, y1]) (by simp [World.shape?, e1, e2]) hoc hlies hfz).mono ?_
    rintro e w' ⟨rfl, rfl⟩
    have hidi := (hH.lt i _ hg).1
    have hz1 : All2 (crel ρ) [SV.ptr i o] [Value.pointer (some ⟨b, o, none⟩)] := ⟨⟨b, hb, by rw [h0, Nat.zero_add]⟩, trivial⟩
    obtain ⟨c2, T2, fr2, p1, p2, p3, p4⟩ := row_write hr hb o _ _ hz1 (by simp [Body.cells]; omega)
    rw [e1] at p1; cases p1
    rw [h0, Nat.zero_add] at p4
    rw [setCell_wset e1]
    refine ⟨_, ρ, rfl, ⟨[], rfl, trivial⟩, rfl, ?_, Ext.refl _ _, Nat.le_refl _⟩
    refine hH.write i _ ⟨true, .sv cs'⟩ hg rfl ?_ ?_ rfl rfl rfl (by simp [wset]) (fun q hq => wset_heap_ne _ _ _ _ (fun e => hq (by rw [hb, e]))) (wset_keep e1 (by simp))
    · have hlt := (hH.lt i _ hg).2
      simp only [Body.lt, List.all_eq_true] at hlt ⊢
      intro v hv
      rw [← hcs] at hv
      rcases mem_splice hv with h | h
      · exact hlt v h
      · rw [List.mem_singleton.1 h]; exact hidi
    · refine ObjOK.mk (by simp) ?_ ((obj_ex hH hg (by simp)).to rfl (fun _ => rfl))
      show RowOK _ _ _ true (Body.sv cs').cells
      rw [← hcs]; exact p4
theorem ck_used_S (L : Lays.n240 P σ) (X : Builder.X72 P σ) {i o : Nat} {cs : List SV} {s : SO} (hg : H.get i = some s) (hb' : s.b = .sv cs) (hc : cs[o]? = some (.ptr i o)) :
    SpecAt P (σ.f 240) [.ptr i o] H n (.tup []) H n := by
  intro F w0 w ρ xs hH hz hl
  match xs, hz with
  | [x], ⟨⟨b, hb, hx⟩, _⟩ =>
    subst hx
    have hr := obj_row hH hg (by rw [hb']; simp)
    rw [hb'] at hr
    simp only [RowOK, hb] at hr
    obtain ⟨ca', T', fr', q1, q2, q3, q4, q5⟩ := hr
    obtain ⟨y, y1, y2⟩ := q4 o _ hc
    obtain ⟨b2, hb2, y3⟩ := (y2 : arel ρ (.ptr i o) y)
    rw [hb] at hb2; cases hb2
    subst y3
    refine (ck_used L X b ((ρ i).off + o) w (by rw [cell_of q1, y1])).mono ?_
    rintro e w' ⟨rfl, rfl⟩
    exact ⟨_, ρ, rfl, ⟨[], rfl, trivial⟩, rfl, hH, Ext.refl _ _, Nat.le_refl _⟩
theorem str_some_S (L : Lays.n169 P σ) (X : Builder.Extra P σ) {i o r k q : Nat} {cs : List SV} {s t : SO} {bs : List Int} (hg : H.get i = some s) (hb' : s.b = .sv cs) (hc : cs[o + 1]? = some (.sl r 0 k 1)) (hr : H.get r = some ⟨true, .ints .u8 bs⟩)
    (hk : k = bs.length) (hk0 : k ≠ 0) (hk1 : k ≤ 9223372036854775807) (hq : H.get q = some t) (ht : t.b = .mp (.shp r (σ.t 5) none)) (hby : ∀ y ∈ bs, 0 ≤ y ∧ y ≤ 255) :
    SpecAt P (σ.f 169) [.ptr i o] H n (.v (.string (tx bs))) (H.put r ⟨false, .ints .u8 bs⟩) n := by
  intro F w0 w ρ xs hH hz hl
  match xs, hz with
  | [x], ⟨⟨b, hb, hx⟩, _⟩ =>
    subst hx
    have hri := obj_row hH hg (by rw [hb']; simp)
    rw [hb'] at hri
    simp only [RowOK, hb] at hri
    obtain ⟨ca', T', fr', q1, q2, q3, q4, q5⟩ := hri
    obtain ⟨y, y1, y2⟩ := q4 (o + 1) _ hc
    have y2 : slrel (ρ r) 0 k 1 y := y2
    cases hbr : (ρ r).blk with
    | none => simp only [slrel, hbr] at y2; exact absurd y2.1 hk0
    | some g =>
      simp only [slrel, hbr] at y2
      obtain ⟨cap, a, z1, z2, z3, z4⟩ := y2
      have hgh := hH.obj q t hq
      unfold ObjOK at hgh
      rw [ht] at hgh
      obtain ⟨h0, c, hsh, _⟩ := hgh.2 (by rw [hbr]; simp)
      have ha := z3 (by omega)
      rw [h0] at ha
      subst ha
      subst z4
      obtain ⟨ca, fr, e1, e2⟩ := hH.shp r _ c g hsh hbr
      have hrr := obj_row hH hr (by simp)
      have hrr' := hrr
      simp only [RowOK, hbr] at hrr
      obtain ⟨ca2, T2, fr2, p1, p2, p3, p4, p5⟩ := hrr
      rw [e1] at p1; cases p1
      have hl1 : (tx bs).data.toList.length = bs.length := by
        have := tx_sz bs
        exact this
      have hcell : ∀ j x, (tx bs).data.toList[j]? = some x → w.cell? ((⟨g, 0, none⟩ : Addr).add j) = some (.int .u8 x.toNat) := by
        intro j x hx
        have hj : j < bs.length := by rw [← hl1]; exact (List.getElem?_eq_some_iff.1 hx).1
        have hx2 : x = UInt8.ofNat (bs[j]).toNat := by
          simp [tx, hj] at hx
          exact hx.symm
        obtain ⟨v, v1, v2⟩ := p4 j (.v (.int .u8 bs[j])) (by simp [Body.cells, hj])
        have v2 : v = .int .u8 bs[j] := v2
        rw [h0, Nat.zero_add] at v1
        have hb2 := hby bs[j] (List.getElem_mem hj)
        rw [add_plain, Nat.zero_add, cell_of e1, v1, v2, hx2]
        congr 2
        have : (UInt8.ofNat (bs[j]).toNat).toNat = (bs[j]).toNat := by
          rw [UInt8.toNat_ofNat']; omega
        omega
      have hbl : bs.length ≤ ca.size := by
        have h1 : bs.length ≤ (ρ r).size := by simpa [Body.cells] using p3
        omega
      have hrun := str_some L X b ((ρ i).off + o) g cap c (tx bs).data.toList w (fun e => by rw [e] at hl1; simp at hl1; omega) (by rw [cell_of q1, Nat.add_assoc, y1, hl1, hk]) (by omega) (by simp [World.shape?, e1, e2]) (by omega) (by omega) hcell
      refine hrun.mono ?_
      rintro e w' ⟨rfl, rfl⟩
      refine ⟨_, ρ, rfl, rfl, rfl, ?_, Ext.refl _ _, Nat.le_refl _⟩
      have hD := hH.drew
      obtain ⟨fr3, hnew⟩ : ∃ fr3, (w.drew.freeze ⟨g, 0, none⟩ (tx bs).data.toList.length).heap[g]? = some (.cells ca (σ.t 5) fr3) := by
        unfold World.freeze
        rw [if_neg (by omega)]
        have e1' : w.drew.heap[g]? = some (.cells ca (σ.t 5) fr) := e1
        obtain ⟨lo, hi⟩ := fr
        exact ⟨_, by rw [Array.getElem?_modify, if_pos rfl, e1']; rfl⟩
      have hoth : ∀ m, m ≠ g → (w.drew.freeze ⟨g, 0, none⟩ (tx bs).data.toList.length).heap[m]? = w.drew.heap[m]? := by
        intro m hm
        unfold World.freeze
        rw [if_neg (by omega)]
        show (w.drew.heap.modify g _)[m]? = _
        rw [Array.getElem?_modify, if_neg (Ne.symm hm)]
      refine hD.write r _ ⟨false, .ints .u8 bs⟩ hr rfl rfl ?_ ?_ ?_ ?_ ?_ (fun m hm => hoth m (fun e => hm (by rw [hbr, e]))) (ShKeep.of_one (b := g) (c := ca) (c' := ca) (T := σ.t 5) (fr := fr) (fr' := fr3) e1 hnew rfl hoth)
      · refine ObjOK.mk (by simp) ?_ ((obj_ex hH hr (by simp)).to rfl (fun h => by cases h))
        simp only [RowOK, hbr]
        exact ⟨ca, _, fr3, hnew, p2, p3, p4, fun h => by cases h⟩
      all_goals (unfold World.freeze; rw [if_neg (by omega)])
      simp
end Go.Sx

/- strings.Builder at this program. -/
set_option linter.unusedVariables false
set_option linter.unusedSimpArgs false
set_option maxRecDepth 100000
namespace Go.Proofs
open Go.Shelf Go.RowKit Go.Sx
def layCk_ren : Go.Shelf.Ren := ⟨fun | 240 => 111 | 276 => 131 | n => n, fun | 0 => 0 | 4 => 4 | 9 => 9 | 20 => 20 | 70 => 141 | 72 => 143 | 164 => 187 | 5 => 5 | 37 => 79 | n => n, fun n => n⟩
theorem layCk : Lays.n240 Tryz.prog layCk_ren where
  mixed := by kernel_rfl
  f240 := Tryz.func111.trans (congrArg some (by kernel_rfl))
  f276 := Tryz.func131.trans (congrArg some (by kernel_rfl))
  t0 := Tryz.underlying0
  a0 := Tryz.isAgg0
  z0 := Tryz.sizeOf0
  v0 := Tryz.zeroValue0
  t4 := Tryz.underlying4
  a4 := Tryz.isAgg4
  z4 := Tryz.sizeOf4
  v4 := Tryz.zeroValue4
  t9 := Tryz.underlying9
  a9 := Tryz.isAgg9
  z9 := Tryz.sizeOf9
  v9 := Tryz.zeroValue9
  t20 := Tryz.underlying20
  a20 := Tryz.isAgg20
  z20 := Tryz.sizeOf20
  v20 := Tryz.zeroValue20
  t70 := Tryz.underlying141
  a70 := Tryz.isAgg141
  z70 := Tryz.sizeOf141
  v70 := Tryz.zeroValue141
  t72 := Tryz.underlying143
  a72 := Tryz.isAgg143
  z72 := Tryz.sizeOf143
  v72 := Tryz.zeroValue143
  t164 := Tryz.underlying187
  a164 := Tryz.isAgg187
  z164 := Tryz.sizeOf187
  v164 := Tryz.zeroValue187
theorem layCk_extra : Builder.X72 Tryz.prog layCk_ren where
  sizeBuilder := by kernel_rfl
  liesBuilder := by kernel_rfl
def layStr_ren : Go.Shelf.Ren := ⟨fun | 169 => 80 | n => n, fun | 70 => 141 | 9 => 9 | 0 => 0 | 72 => 143 | 37 => 79 | 127 => 178 | 3 => 3 | 5 => 5 | n => n, fun n => n⟩
theorem layStr : Lays.n169 Tryz.prog layStr_ren where
  mixed := by kernel_rfl
  f169 := Tryz.func80.trans (congrArg some (by kernel_rfl))
  t0 := Tryz.underlying0
  a0 := Tryz.isAgg0
  z0 := Tryz.sizeOf0
  v0 := Tryz.zeroValue0
  t3 := Tryz.underlying3
  a3 := Tryz.isAgg3
  z3 := Tryz.sizeOf3
  v3 := Tryz.zeroValue3
  t9 := Tryz.underlying9
  a9 := Tryz.isAgg9
  z9 := Tryz.sizeOf9
  v9 := Tryz.zeroValue9
  t37 := Tryz.underlying79
  a37 := Tryz.isAgg79
  z37 := Tryz.sizeOf79
  v37 := Tryz.zeroValue79
  t70 := Tryz.underlying141
  a70 := Tryz.isAgg141
  z70 := Tryz.sizeOf141
  v70 := Tryz.zeroValue141
  t72 := Tryz.underlying143
  a72 := Tryz.isAgg143
  z72 := Tryz.sizeOf143
  v72 := Tryz.zeroValue143
  t127 := Tryz.underlying178
  a127 := Tryz.isAgg178
  z127 := Tryz.sizeOf178
  v127 := Tryz.zeroValue178
theorem layStr_extra : Builder.Extra Tryz.prog layStr_ren where
  sizeBuilder := by kernel_rfl
  liesBuilder := by kernel_rfl
  t5 := Tryz.underlying5
  a5 := Tryz.isAgg5
  z5 := Tryz.sizeOf5
  v5 := Tryz.zeroValue5
  infoByte := by kernel_rfl
  cellsByte := by kernel_rfl
  sizeByte := by kernel_rfl
  neB5 := by decide
theorem ckF {i j : Nat} {H : Hp} {n : Nat} {s : SO} {v : SV} (hg : H.get i = some ⟨true, .sv [.v (.pointer none), v]⟩) (hj : H.get j = some s) (hs : s.b = .mp (.shp i 143 (some 2))) :
    SpecAt Tryz.prog 111 [.ptr i 0] H n (.tup []) (H.put i ⟨true, .sv [.ptr i 0, v]⟩) n :=
  ck_fresh_S layCk layCk_extra (o := 0) hg rfl hj hs (by decide) layCk_extra.liesBuilder rfl
theorem ckU {i : Nat} {H : Hp} {n : Nat} {s : SO} {v : SV} (hg : H.get i = some s) (hs : s.b = .sv [.ptr i 0, v]) :
    SpecAt Tryz.prog 111 [.ptr i 0] H n (.tup []) H n :=
  ck_used_S layCk layCk_extra (o := 0) hg hs rfl
theorem strS {i r k q : Nat} {H : Hp} {n : Nat} {s t : SO} {v : SV} {bs : List Int} (hg : H.get i = some s) (hb : s.b = .sv [v, .sl r 0 k 1]) (hr : H.get r = some ⟨true, .ints .u8 bs⟩) (hk : k = bs.length) (hk0 : k ≠ 0) (hk1 : k ≤ 9223372036854775807)
    (hq : H.get q = some t) (ht : t.b = .mp (.shp r 5 none)) (hby : ∀ y ∈ bs, 0 ≤ y ∧ y ≤ 255) : SpecAt Tryz.prog 80 [.ptr i 0] H n (.v (.string (tx bs))) (H.put r ⟨false, .ints .u8 bs⟩) n :=
  str_some_S layStr layStr_extra (o := 0) hg hb rfl hr hk hk0 hk1 hq ht hby
end Go.Proofs

/- Trees, at this program. -/
set_option linter.unusedVariables false
set_option linter.unusedSimpArgs false
set_option maxRecDepth 100000
namespace Go.Sx
open Go.Proofs
variable {H : Hp} {n : Nat} {x : Nat → Option SO}
theorem sub_wr {π : List (Nat × Nat)} {j i : Nat} {o : SO} (hr : rn π j = i) (hi : 0 < i) (h1 : i < 1000) {b : Body} (hg : H.get i = some ⟨true, b⟩) (hb : b = o.b.ren π) : objSub π H j o := by
  unfold objSub
  rw [hr, if_neg (by omega), hg]
  exact ⟨fun _ => h1, fun _ => rfl, hb⟩
theorem sub_ro {π : List (Nat × Nat)} {j i : Nat} {b0 : Body} (hr : rn π j = i) (hi : 0 < i) {s : SO} (hg : H.get i = some s) (hb : s.b = b0.ren π) : objSub π H j ⟨false, b0⟩ := by
  unfold objSub
  rw [hr, if_neg (by omega), hg]
  exact ⟨fun h => (by cases h), fun h => (by cases h), hb⟩
variable {H : Hp} {n : Nat} {x : Nat → Option SO}
theorem seq_self (s : ByteArray) : seq s s = true := by unfold seq; simp
variable {H : Hp} {n : Nat} {x : Nat → Option SO}
variable {H : Hp} {n : Nat} {x : Nat → Option SO}
end Go.Sx

/- Trees, at this program. -/
set_option linter.unusedVariables false
set_option linter.unusedSimpArgs false
set_option maxRecDepth 100000
namespace Go.Sx
attribute [local go_sem ↓] bind_mk intsB_mk strsB_mk svB_mk fnVC ob_some vc_skip vc_exit vc_ret vc_seq vc_block kSeq_normal kSeq_exit kSeq_ret kBlock_normal kBlock_exit kBlock_ret vc_reg vc_regD vc_cond condK_true condK_false vc_loop kLoop_exit kLoop_ret kRoll_normal kRoll_exit kRoll_ret vcOps_nil vcOps_cons gd_bool gd_undef put_some put_none vcT_fin vcT_pure vcT_act vcT_acts vcT_stop stab_none stab_some stabM_nil stabM_cons stabO_ld stabO_ldn stabO_slP stabO_b2s fldOf_ai fldOf_agg fldOf_ait fldOf_aggt intsOf_nil intsOf_cons strsOf_nil strsOf_cons c_omap ob_if lk_nil lk_cons ev_t ev_k z_mov z_pick z_bin z_binA z_binB z_binP z_un z_r2s z_conv z_s2b z_b2s z_mkM z_luM z_upM z_lenM lenMk_mp lenMk_nil plsOf_v z_delM asM_so plV_v plV_agg mpOf_mp mpOf_nil mpUp_mp asM_mp luV_ok luV_v z_allocT aggOf_mk z_boxT z_alloc z_bld z_bldI z_rowI z_rowS z_ld z_ldn z_st z_stn asN_ptr asN_fn z_nilck z_fld z_fadr z_idxA z_idxP z_idxS z_idxV z_slS z_slL z_slP z_mk z_lenS z_lenL z_app appC_ints appC_pl appC_sv appC_strs isS_strs loose_ints loose_pl loose_sv z_slM z_callv callvK_fn callvK_f callvK_yl vc_rangeF rfEnd_eq rfGo_none rfGo_ret rfGo_exit yGo_mk yEnd_n yEnd_r yEnd_e yRdy_mk yMid_n putPs_nil putPs_cons leaf_v leaf_ptr leaf_sl leaf_yl leaf_mp z_appS z_appST z_appZ z_cpyS z_mkfn reps_int reps_str z_rowV z_slnil nilK_zero z_cpy z_call asT_tup z_extT z_box boxOf_ai boxOf_agg boxOf_int boxOf_str boxOf_bool boxOf_ptr boxOf_sl sbin_int sbin_str sbinA_mk ae_nil ae_int ae_str sbinB_mk sbinP_nn sbinP_pn sbinP_np i_add i_sub i_mul i_quo i_rem i_and i_or i_xor i_andNot i_shl i_shr i_eql i_neq i_lss i_leq i_gtr i_geq st_add st_eql st_neq st_lss st_leq st_gtr st_geq bo_eql bo_neq pt_eql pt_neq un_neg un_xor un_not asI_mk asB_mk asS_mk asP_mk asSl_mk asBy_mk bnd_none bnd_some get_mk hput_mk hdel_mk kill_eq wrOf_eq rowOf_eq rsvs_0 rsvs_1 rsvs_2 rsvs_3 rsv_t rsv_c1 rsv_cn nt_v nt_ptr nt_sl nt_agg nt_ai get_ints get_strs get_pl get_sv getN_ints getN_sv set_ints set_strs set_sv setN_ints setN_sv part_ints part_strs part_sv cat_ints cat_strs cat_sv over_ints over_strs over_sv ones_ints ones_strs evs_nil evs_cons condK_eqt condK_eqf det_callP V_ns V_nn V_gs V_gn obC_mk fresh_ev freshT_ev freshR_ev setN_plagg setN_intsv setN_svai setN_svagg over_intsv set_pl setN_pl setN_plai getN_pl getN_strs part_pl cat_pl over_pl over_plints z_mm
attribute [local go_sem] initTm ne_eq not_true_eq_false not_false_eq_true true_and and_true List.length_cons List.length_nil Int.toNat_natCast Nat.add_zero Nat.zero_add Nat.mul_one List.getElem?_cons_zero List.drop_zero List.take_length List.take_succ_cons List.take_zero List.take_nil List.drop_succ_cons Option.map_some Nat.le_refl implies_true List.getElem?_cons_succ decide_true decide_false Bool.not_true Bool.not_false beq_self_eq_true Nat.succ_ne_self Nat.one_ne_zero Nat.zero_ne_one vk_mk hk_mk nk_mk tok_eq plsOf_map intsOf_map bodyOf_pl bodyOf_ints bodyOf_strs bodyOf_sv part_aggv part_agg part_ai part_int part_str part_bool part_sl part_ptr part_nil numsOf_map u_int u_str u_bool u_pnil u_sl u_ptr u_oci u_ocs evq_nil evq_cons fillS_nil fillS_cons u_ocb ones_pl cells_sv cells_ints cells_strs cells_pl smms_nil smms_cons smm_min smm_max plsOf_nil List.nil_append List.all_cons List.all_nil Bool.and_self Bool.true_and Bool.and_true zws_len zw_len zi_len List.set_cons_zero List.set_cons_succ List.flatMap_cons List.flatMap_nil List.append_nil
attribute [local go_sem_proc] Nat.reduceEqDiff Nat.reduceAdd Nat.reduceMul Nat.reduceLT Nat.reduceLeDiff Nat.reduceSub Int.reduceToNat Int.reduceLE Int.reduceLT reduceCtorEq Int.reduceEq Int.reduceGT Int.reduceGE Int.reduceNeg
attribute [local go_sem_proc ↓] reduceIte
section
open Go.Proofs
variable {H : Hp} {n : Nat} {x : Nat → Option SO}
def be (y k : Nat) : List Int := (List.range k).map fun j => ((y / 256 ^ (k - 1 - j) % 256 : Nat) : Int)
theorem be_len {y k : Nat} : (be y k).length = k := by simp [be]
theorem be_get {y k j : Nat} (h : j < k) : (be y k)[j]? = some ((y / 256 ^ (k - 1 - j) % 256 : Nat) : Int) := by
  unfold be; rw [List.getElem?_map, List.getElem?_range h]; rfl
def wrO (r : Nat) (l : Nat) (bad : Bool) : SO := ⟨true, .sv [.sl r 0 l 1, .v (.bool bad)]⟩
theorem ishr_i {y s : Nat} (hs : s ≤ 64) : ishr .i64 (y : Int) (s : Nat) = ((y / 2 ^ s : Nat) : Int) := by
  unfold ishr
  have hm : min ((s : Nat) : Int).toNat IntKind.i64.bits = s := by show min ((s : Nat) : Int).toNat 64 = s; omega
  rw [hm, Int.fdiv_eq_ediv_of_nonneg _ (Int.le_of_lt (Int.pow_pos (by decide)))]
  push_cast
  rfl
theorem pow256 (c : Nat) : 2 ^ (8 * c) = 256 ^ c := by rw [Nat.pow_mul]
theorem wNumW {y k : Nat} {bs : List Int} {bad : Bool} (hk : k ≤ 8) (hy : y < 9223372036854775808) (hf : k < 8 → y < 256 ^ k) (hb : bs.length ≤ 1099511627776) :
    fnVC CT mWNumber [.ptr 1 0, .v (.int .i64 y), .v (.int .i64 k)] ⟨[(1, some (wrO 2 bs.length bad)), (2, some ⟨true, .ints .u8 bs⟩)], x⟩ 3 fun v H' n' => Sub 3 ⟨[(0, .tup [])], ⟨[(1, some (wrO 3 (bs ++ be y k).length bad)), (2, none), (3, some ⟨true, .ints .u8 (bs ++ be y k)⟩)], x⟩, 4⟩ ⟨[(0, v)], H', n'⟩ := by
  unfold mWNumber wrO
  have g1 : decide ((y : Int) < 0) = false := decide_eq_false (by omega)
  have w1 : IntKind.i64.wrap (8 * (k : Int)) = ((8 * k : Nat) : Int) := by rw [wrap_i64 (by omega) (by omega)]; omega
  have s1 : ishr .i64 (y : Int) ((8 * k : Nat) : Int) = ((y / 256 ^ k : Nat) : Int) := by rw [ishr_i (by omega), pow256]
  have w2 : IntKind.i64.wrap ((k : Int) - 1) = (k : Int) - 1 := wrap_i64 (by omega) (by omega)
  have hz : k < 8 → decide (((y / 256 ^ k : Nat) : Int) = 0) = true := fun h => decide_eq_true (by rw [Nat.div_eq_of_lt (hf h)]; rfl)
  simp -implicitDefEqProofs only [↓fnVC, initTm]
  simp -implicitDefEqProofs only [go_sem, g1]
  refine condK_bb (fun c => ?_) (fun c => ?_)
  · have h1 := hz (by have := of_decide_eq_true c; omega)
    simp -implicitDefEqProofs only [go_sem, c, w1, s1, h1]
    refine ⟨by omega, ?_⟩
    refine loop_fam (fun (c : Nat) => c ≤ k) (fun c => ⟨[(0, .ptr 1 0), (1, .v (.int .i64 y)), (2, .v (.int .i64 ((c : Int) - 1)))], ⟨[(1, some ⟨true, .sv [.sl 3 0 (bs ++ (be y k).take (k - c)).length 1, .v (.bool bad)]⟩), (3, some ⟨true, .ints .u8 (bs ++ (be y k).take (k - c))⟩)], x⟩, 4⟩) (fun c => c) k (Nat.le_refl _) ?_ ?_
    · refine sub_mk [(3, 2)] rfl rfl rfl ?_
      simp only [tmSub, hpSub, objSub, eqTm, eqHp, rn, lk, SV.ren, SV.renC, SV.renB, SV.renA, ren_ints, ren_strs, ren_pl, ren_svs, SV.v.injEq, Value.int.injEq, Body.ints.injEq, SV.ptr.injEq, SV.sl.injEq, Value.string.injEq, Value.bool.injEq, List.map_cons, List.map_nil, forall_const, Nat.reduceLT, Nat.lt_add_one, imp_self, true_and, and_true, and_self, ob_some, get_mk, lk_cons, ↓reduceIte, Nat.reduceEqDiff, ne_eq, not_true_eq_false, not_false_eq_true, Nat.one_ne_zero, Nat.zero_ne_one, Nat.succ_ne_self, Nat.reduceAdd, Bool.false_eq_true, false_implies, implies_true, reduceCtorEq, w2, Nat.sub_self, List.take_zero, List.append_nil]
    · intro c hc
      simp -implicitDefEqProofs only [go_sem]
      refine condK_bb (fun d => ?_) (fun d => ?_)
      · have d1 : 1 ≤ c := by have := of_decide_eq_true d; omega
        have w3 : IntKind.i64.wrap (8 * ((c : Int) - 1)) = ((8 * (c - 1) : Nat) : Int) := by rw [wrap_i64 (by omega) (by omega)]; omega
        have s2 : ishr .i64 (y : Int) ((8 * (c - 1) : Nat) : Int) = ((y / 256 ^ (c - 1) : Nat) : Int) := by rw [ishr_i (by omega), pow256]
        have w4 : IntKind.u8.wrap ((y / 256 ^ (c - 1) : Nat) : Int) = ((y / 256 ^ (c - 1) % 256 : Nat) : Int) := by rw [wrap_u8]; omega
        have w5 : IntKind.i64.wrap ((c : Int) - 1 - 1) = ((c - 1 : Nat) : Int) - 1 := by rw [wrap_i64 (by omega) (by omega)]; omega
        have ht : bs ++ (be y k).take (k - (c - 1)) = (bs ++ (be y k).take (k - c)) ++ [((y / 256 ^ (c - 1) % 256 : Nat) : Int)] := by
          rw [show k - (c - 1) = (k - c) + 1 by omega, List.take_add_one, be_get (by omega), show k - 1 - (k - c) = c - 1 by omega, List.append_assoc]; rfl
        have hlen : (bs ++ (be y k).take (k - c)).length ≤ 1099511627784 := by rw [List.length_append, List.length_take]; omega
        generalize bs ++ (be y k).take (k - c) = cur at hlen ht
        simp -implicitDefEqProofs only [go_sem, d, w3, s2, w4, w5]
        refine ⟨by omega, by omega, by omega, ?_⟩
        refine kLoop_mk (c - 1) (by omega) (by omega) ?_
        refine sub_mk [(3, 5)] rfl rfl rfl ?_
        simp only [tmSub, hpSub, objSub, eqTm, eqHp, rn, lk, SV.ren, SV.renC, SV.renB, SV.renA, ren_ints, ren_strs, ren_pl, ren_svs, SV.v.injEq, Value.int.injEq, Body.ints.injEq, SV.ptr.injEq, SV.sl.injEq, Value.string.injEq, Value.bool.injEq, List.map_cons, List.map_nil, forall_const, Nat.reduceLT, Nat.lt_add_one, imp_self, true_and, and_true, and_self, ob_some, get_mk, lk_cons, ↓reduceIte, Nat.reduceEqDiff, ne_eq, not_true_eq_false, not_false_eq_true, Nat.one_ne_zero, Nat.zero_ne_one, Nat.succ_ne_self, Nat.reduceAdd, Bool.false_eq_true, false_implies, implies_true, reduceCtorEq, w5, ht, List.length_append, List.length_singleton]
      · have d1 : c = 0 := by have := of_decide_eq_false d; omega
        subst d1
        have ht : (be y k).take (k - 0) = be y k := List.take_of_length_le (by rw [be_len]; exact Nat.le_refl _)
        simp -implicitDefEqProofs only [go_sem, d, ht]
        refine sub_mk [] rfl rfl rfl ?_
        simp only [tmSub, hpSub, objSub, eqTm, eqHp, rn, lk, SV.ren, SV.renC, SV.renB, SV.renA, ren_ints, ren_strs, ren_pl, ren_svs, SV.v.injEq, Value.int.injEq, Body.ints.injEq, SV.ptr.injEq, SV.sl.injEq, Value.string.injEq, Value.bool.injEq, List.map_cons, List.map_nil, forall_const, Nat.reduceLT, Nat.lt_add_one, imp_self, true_and, and_true, and_self, ob_some, get_mk, lk_cons, ↓reduceIte, Nat.reduceEqDiff, ne_eq, not_true_eq_false, not_false_eq_true, Nat.one_ne_zero, Nat.zero_ne_one, Nat.succ_ne_self, Nat.reduceAdd, Bool.false_eq_true, false_implies, implies_true, reduceCtorEq]
  · simp -implicitDefEqProofs only [go_sem, c, w1, s1]
    refine loop_fam (fun (c : Nat) => c ≤ k) (fun c => ⟨[(0, .ptr 1 0), (1, .v (.int .i64 y)), (2, .v (.int .i64 ((c : Int) - 1)))], ⟨[(1, some ⟨true, .sv [.sl 3 0 (bs ++ (be y k).take (k - c)).length 1, .v (.bool bad)]⟩), (3, some ⟨true, .ints .u8 (bs ++ (be y k).take (k - c))⟩)], x⟩, 4⟩) (fun c => c) k (Nat.le_refl _) ?_ ?_
    · refine sub_mk [(3, 2)] rfl rfl rfl ?_
      simp only [tmSub, hpSub, objSub, eqTm, eqHp, rn, lk, SV.ren, SV.renC, SV.renB, SV.renA, ren_ints, ren_strs, ren_pl, ren_svs, SV.v.injEq, Value.int.injEq, Body.ints.injEq, SV.ptr.injEq, SV.sl.injEq, Value.string.injEq, Value.bool.injEq, List.map_cons, List.map_nil, forall_const, Nat.reduceLT, Nat.lt_add_one, imp_self, true_and, and_true, and_self, ob_some, get_mk, lk_cons, ↓reduceIte, Nat.reduceEqDiff, ne_eq, not_true_eq_false, not_false_eq_true, Nat.one_ne_zero, Nat.zero_ne_one, Nat.succ_ne_self, Nat.reduceAdd, Bool.false_eq_true, false_implies, implies_true, reduceCtorEq, w2, Nat.sub_self, List.take_zero, List.append_nil]
    · intro c hc
      simp -implicitDefEqProofs only [go_sem]
      refine condK_bb (fun d => ?_) (fun d => ?_)
      · have d1 : 1 ≤ c := by have := of_decide_eq_true d; omega
        have w3 : IntKind.i64.wrap (8 * ((c : Int) - 1)) = ((8 * (c - 1) : Nat) : Int) := by rw [wrap_i64 (by omega) (by omega)]; omega
        have s2 : ishr .i64 (y : Int) ((8 * (c - 1) : Nat) : Int) = ((y / 256 ^ (c - 1) : Nat) : Int) := by rw [ishr_i (by omega), pow256]
        have w4 : IntKind.u8.wrap ((y / 256 ^ (c - 1) : Nat) : Int) = ((y / 256 ^ (c - 1) % 256 : Nat) : Int) := by rw [wrap_u8]; omega
        have w5 : IntKind.i64.wrap ((c : Int) - 1 - 1) = ((c - 1 : Nat) : Int) - 1 := by rw [wrap_i64 (by omega) (by omega)]; omega
        have ht : bs ++ (be y k).take (k - (c - 1)) = (bs ++ (be y k).take (k - c)) ++ [((y / 256 ^ (c - 1) % 256 : Nat) : Int)] := by
          rw [show k - (c - 1) = (k - c) + 1 by omega, List.take_add_one, be_get (by omega), show k - 1 - (k - c) = c - 1 by omega, List.append_assoc]; rfl
        have hlen : (bs ++ (be y k).take (k - c)).length ≤ 1099511627784 := by rw [List.length_append, List.length_take]; omega
        generalize bs ++ (be y k).take (k - c) = cur at hlen ht
        simp -implicitDefEqProofs only [go_sem, d, w3, s2, w4, w5]
        refine ⟨by omega, by omega, by omega, ?_⟩
        refine kLoop_mk (c - 1) (by omega) (by omega) ?_
        refine sub_mk [(3, 5)] rfl rfl rfl ?_
        simp only [tmSub, hpSub, objSub, eqTm, eqHp, rn, lk, SV.ren, SV.renC, SV.renB, SV.renA, ren_ints, ren_strs, ren_pl, ren_svs, SV.v.injEq, Value.int.injEq, Body.ints.injEq, SV.ptr.injEq, SV.sl.injEq, Value.string.injEq, Value.bool.injEq, List.map_cons, List.map_nil, forall_const, Nat.reduceLT, Nat.lt_add_one, imp_self, true_and, and_true, and_self, ob_some, get_mk, lk_cons, ↓reduceIte, Nat.reduceEqDiff, ne_eq, not_true_eq_false, not_false_eq_true, Nat.one_ne_zero, Nat.zero_ne_one, Nat.succ_ne_self, Nat.reduceAdd, Bool.false_eq_true, false_implies, implies_true, reduceCtorEq, w5, ht, List.length_append, List.length_singleton]
      · have d1 : c = 0 := by have := of_decide_eq_false d; omega
        subst d1
        have ht : (be y k).take (k - 0) = be y k := List.take_of_length_le (by rw [be_len]; exact Nat.le_refl _)
        simp -implicitDefEqProofs only [go_sem, d, ht]
        refine sub_mk [] rfl rfl rfl ?_
        simp only [tmSub, hpSub, objSub, eqTm, eqHp, rn, lk, SV.ren, SV.renC, SV.renB, SV.renA, ren_ints, ren_strs, ren_pl, ren_svs, SV.v.injEq, Value.int.injEq, Body.ints.injEq, SV.ptr.injEq, SV.sl.injEq, Value.string.injEq, Value.bool.injEq, List.map_cons, List.map_nil, forall_const, Nat.reduceLT, Nat.lt_add_one, imp_self, true_and, and_true, and_self, ob_some, get_mk, lk_cons, ↓reduceIte, Nat.reduceEqDiff, ne_eq, not_true_eq_false, not_false_eq_true, Nat.one_ne_zero, Nat.zero_ne_one, Nat.succ_ne_self, Nat.reduceAdd, Bool.false_eq_true, false_implies, implies_true, reduceCtorEq]
theorem wNum0W {y k : Nat} {bs : List Int} {bad : Bool} (hk : k ≤ 8) (hy : y < 9223372036854775808) (hf : k < 8 → y < 256 ^ k) (hb : bs.length ≤ 1099511627776) (h0 : bs = []) :
    fnVC CT mWNumber [.ptr 1 0, .v (.int .i64 y), .v (.int .i64 k)] ⟨[(1, some ⟨true, .sv [.sl 0 0 0 1, .v (.bool bad)]⟩)], x⟩ 2 fun v H' n' => Sub 2 ⟨[(0, .tup [])], ⟨[(1, some (wrO 2 (be y k).length bad)), (2, some ⟨true, .ints .u8 (be y k)⟩)], x⟩, 3⟩ ⟨[(0, v)], H', n'⟩ := by
  unfold mWNumber wrO
  have g1 : decide ((y : Int) < 0) = false := decide_eq_false (by omega)
  have w1 : IntKind.i64.wrap (8 * (k : Int)) = ((8 * k : Nat) : Int) := by rw [wrap_i64 (by omega) (by omega)]; omega
  have s1 : ishr .i64 (y : Int) ((8 * k : Nat) : Int) = ((y / 256 ^ k : Nat) : Int) := by rw [ishr_i (by omega), pow256]
  have w2 : IntKind.i64.wrap ((k : Int) - 1) = (k : Int) - 1 := wrap_i64 (by omega) (by omega)
  have hz : k < 8 → decide (((y / 256 ^ k : Nat) : Int) = 0) = true := fun h => decide_eq_true (by rw [Nat.div_eq_of_lt (hf h)]; rfl)
  simp -implicitDefEqProofs only [↓fnVC, initTm]
  simp -implicitDefEqProofs only [go_sem, g1]
  refine condK_bb (fun c => ?_) (fun c => ?_)
  · have h1 := hz (by have := of_decide_eq_true c; omega)
    simp -implicitDefEqProofs only [go_sem, c, w1, s1, h1]
    refine ⟨by omega, ?_⟩
    refine loop_fam (fun (c : Nat) => c ≤ k) (fun c => ⟨[(0, .ptr 1 0), (1, .v (.int .i64 y)), (2, .v (.int .i64 ((c : Int) - 1)))], ⟨[(1, some ⟨true, .sv [.sl 2 0 (bs ++ (be y k).take (k - c)).length 1, .v (.bool bad)]⟩), (2, some ⟨true, .ints .u8 (bs ++ (be y k).take (k - c))⟩)], x⟩, 3⟩) (fun c => c) k (Nat.le_refl _) ?_ ?_
    · subst h0
      refine sub_mk [(2, 0)] rfl rfl rfl ?_
      simp only [tmSub, hpSub, objSub, eqTm, eqHp, rn, lk, SV.ren, SV.renC, SV.renB, SV.renA, ren_ints, ren_strs, ren_pl, ren_svs, SV.v.injEq, Value.int.injEq, Body.ints.injEq, SV.ptr.injEq, SV.sl.injEq, Value.string.injEq, Value.bool.injEq, List.map_cons, List.map_nil, forall_const, Nat.reduceLT, Nat.lt_add_one, imp_self, true_and, and_true, and_self, ob_some, get_mk, lk_cons, ↓reduceIte, Nat.reduceEqDiff, ne_eq, not_true_eq_false, not_false_eq_true, Nat.one_ne_zero, Nat.zero_ne_one, Nat.succ_ne_self, Nat.reduceAdd, Bool.false_eq_true, false_implies, implies_true, reduceCtorEq, w2, Nat.sub_self, List.take_zero, List.append_nil, List.length_nil]
      rfl
    · intro c hc
      simp -implicitDefEqProofs only [go_sem]
      refine condK_bb (fun d => ?_) (fun d => ?_)
      · have d1 : 1 ≤ c := by have := of_decide_eq_true d; omega
        have w3 : IntKind.i64.wrap (8 * ((c : Int) - 1)) = ((8 * (c - 1) : Nat) : Int) := by rw [wrap_i64 (by omega) (by omega)]; omega
        have s2 : ishr .i64 (y : Int) ((8 * (c - 1) : Nat) : Int) = ((y / 256 ^ (c - 1) : Nat) : Int) := by rw [ishr_i (by omega), pow256]
        have w4 : IntKind.u8.wrap ((y / 256 ^ (c - 1) : Nat) : Int) = ((y / 256 ^ (c - 1) % 256 : Nat) : Int) := by rw [wrap_u8]; omega
        have w5 : IntKind.i64.wrap ((c : Int) - 1 - 1) = ((c - 1 : Nat) : Int) - 1 := by rw [wrap_i64 (by omega) (by omega)]; omega
        have ht : bs ++ (be y k).take (k - (c - 1)) = (bs ++ (be y k).take (k - c)) ++ [((y / 256 ^ (c - 1) % 256 : Nat) : Int)] := by
          rw [show k - (c - 1) = (k - c) + 1 by omega, List.take_add_one, be_get (by omega), show k - 1 - (k - c) = c - 1 by omega, List.append_assoc]; rfl
        have hlen : (bs ++ (be y k).take (k - c)).length ≤ 1099511627784 := by rw [List.length_append, List.length_take]; omega
        generalize bs ++ (be y k).take (k - c) = cur at hlen ht
        simp -implicitDefEqProofs only [go_sem, d, w3, s2, w4, w5]
        refine ⟨by omega, by omega, by omega, ?_⟩
        refine kLoop_mk (c - 1) (by omega) (by omega) ?_
        refine sub_mk [(2, 4)] rfl rfl rfl ?_
        simp only [tmSub, hpSub, objSub, eqTm, eqHp, rn, lk, SV.ren, SV.renC, SV.renB, SV.renA, ren_ints, ren_strs, ren_pl, ren_svs, SV.v.injEq, Value.int.injEq, Body.ints.injEq, SV.ptr.injEq, SV.sl.injEq, Value.string.injEq, Value.bool.injEq, List.map_cons, List.map_nil, forall_const, Nat.reduceLT, Nat.lt_add_one, imp_self, true_and, and_true, and_self, ob_some, get_mk, lk_cons, ↓reduceIte, Nat.reduceEqDiff, ne_eq, not_true_eq_false, not_false_eq_true, Nat.one_ne_zero, Nat.zero_ne_one, Nat.succ_ne_self, Nat.reduceAdd, Bool.false_eq_true, false_implies, implies_true, reduceCtorEq, w5, ht, List.length_append, List.length_singleton]
      · have d1 : c = 0 := by have := of_decide_eq_false d; omega
        subst d1
        have ht : (be y k).take (k - 0) = be y k := List.take_of_length_le (by rw [be_len]; exact Nat.le_refl _)
        simp -implicitDefEqProofs only [go_sem, d, ht]
        refine sub_mk [] rfl rfl rfl ?_
        simp only [tmSub, hpSub, objSub, eqTm, eqHp, rn, lk, SV.ren, SV.renC, SV.renB, SV.renA, ren_ints, ren_strs, ren_pl, ren_svs, SV.v.injEq, Value.int.injEq, Body.ints.injEq, SV.ptr.injEq, SV.sl.injEq, Value.string.injEq, Value.bool.injEq, List.map_cons, List.map_nil, forall_const, Nat.reduceLT, Nat.lt_add_one, imp_self, true_and, and_true, and_self, ob_some, get_mk, lk_cons, ↓reduceIte, Nat.reduceEqDiff, ne_eq, not_true_eq_false, not_false_eq_true, Nat.one_ne_zero, Nat.zero_ne_one, Nat.succ_ne_self, Nat.reduceAdd, Bool.false_eq_true, false_implies, implies_true, reduceCtorEq, h0, List.nil_append]
  · simp -implicitDefEqProofs only [go_sem, c, w1, s1]
    refine loop_fam (fun (c : Nat) => c ≤ k) (fun c => ⟨[(0, .ptr 1 0), (1, .v (.int .i64 y)), (2, .v (.int .i64 ((c : Int) - 1)))], ⟨[(1, some ⟨true, .sv [.sl 2 0 (bs ++ (be y k).take (k - c)).length 1, .v (.bool bad)]⟩), (2, some ⟨true, .ints .u8 (bs ++ (be y k).take (k - c))⟩)], x⟩, 3⟩) (fun c => c) k (Nat.le_refl _) ?_ ?_
    · subst h0
      refine sub_mk [(2, 0)] rfl rfl rfl ?_
      simp only [tmSub, hpSub, objSub, eqTm, eqHp, rn, lk, SV.ren, SV.renC, SV.renB, SV.renA, ren_ints, ren_strs, ren_pl, ren_svs, SV.v.injEq, Value.int.injEq, Body.ints.injEq, SV.ptr.injEq, SV.sl.injEq, Value.string.injEq, Value.bool.injEq, List.map_cons, List.map_nil, forall_const, Nat.reduceLT, Nat.lt_add_one, imp_self, true_and, and_true, and_self, ob_some, get_mk, lk_cons, ↓reduceIte, Nat.reduceEqDiff, ne_eq, not_true_eq_false, not_false_eq_true, Nat.one_ne_zero, Nat.zero_ne_one, Nat.succ_ne_self, Nat.reduceAdd, Bool.false_eq_true, false_implies, implies_true, reduceCtorEq, w2, Nat.sub_self, List.take_zero, List.append_nil, List.length_nil]
      rfl
    · intro c hc
      simp -implicitDefEqProofs only [go_sem]
      refine condK_bb (fun d => ?_) (fun d => ?_)
      · have d1 : 1 ≤ c := by have := of_decide_eq_true d; omega
        have w3 : IntKind.i64.wrap (8 * ((c : Int) - 1)) = ((8 * (c - 1) : Nat) : Int) := by rw [wrap_i64 (by omega) (by omega)]; omega
        have s2 : ishr .i64 (y : Int) ((8 * (c - 1) : Nat) : Int) = ((y / 256 ^ (c - 1) : Nat) : Int) := by rw [ishr_i (by omega), pow256]
        have w4 : IntKind.u8.wrap ((y / 256 ^ (c - 1) : Nat) : Int) = ((y / 256 ^ (c - 1) % 256 : Nat) : Int) := by rw [wrap_u8]; omega
        have w5 : IntKind.i64.wrap ((c : Int) - 1 - 1) = ((c - 1 : Nat) : Int) - 1 := by rw [wrap_i64 (by omega) (by omega)]; omega
        have ht : bs ++ (be y k).take (k - (c - 1)) = (bs ++ (be y k).take (k - c)) ++ [((y / 256 ^ (c - 1) % 256 : Nat) : Int)] := by
          rw [show k - (c - 1) = (k - c) + 1 by omega, List.take_add_one, be_get (by omega), show k - 1 - (k - c) = c - 1 by omega, List.append_assoc]; rfl
        have hlen : (bs ++ (be y k).take (k - c)).length ≤ 1099511627784 := by rw [List.length_append, List.length_take]; omega
        generalize bs ++ (be y k).take (k - c) = cur at hlen ht
        simp -implicitDefEqProofs only [go_sem, d, w3, s2, w4, w5]
        refine ⟨by omega, by omega, by omega, ?_⟩
        refine kLoop_mk (c - 1) (by omega) (by omega) ?_
        refine sub_mk [(2, 4)] rfl rfl rfl ?_
        simp only [tmSub, hpSub, objSub, eqTm, eqHp, rn, lk, SV.ren, SV.renC, SV.renB, SV.renA, ren_ints, ren_strs, ren_pl, ren_svs, SV.v.injEq, Value.int.injEq, Body.ints.injEq, SV.ptr.injEq, SV.sl.injEq, Value.string.injEq, Value.bool.injEq, List.map_cons, List.map_nil, forall_const, Nat.reduceLT, Nat.lt_add_one, imp_self, true_and, and_true, and_self, ob_some, get_mk, lk_cons, ↓reduceIte, Nat.reduceEqDiff, ne_eq, not_true_eq_false, not_false_eq_true, Nat.one_ne_zero, Nat.zero_ne_one, Nat.succ_ne_self, Nat.reduceAdd, Bool.false_eq_true, false_implies, implies_true, reduceCtorEq, w5, ht, List.length_append, List.length_singleton]
      · have d1 : c = 0 := by have := of_decide_eq_false d; omega
        subst d1
        have ht : (be y k).take (k - 0) = be y k := List.take_of_length_le (by rw [be_len]; exact Nat.le_refl _)
        simp -implicitDefEqProofs only [go_sem, d, ht]
        refine sub_mk [] rfl rfl rfl ?_
        simp only [tmSub, hpSub, objSub, eqTm, eqHp, rn, lk, SV.ren, SV.renC, SV.renB, SV.renA, ren_ints, ren_strs, ren_pl, ren_svs, SV.v.injEq, Value.int.injEq, Body.ints.injEq, SV.ptr.injEq, SV.sl.injEq, Value.string.injEq, Value.bool.injEq, List.map_cons, List.map_nil, forall_const, Nat.reduceLT, Nat.lt_add_one, imp_self, true_and, and_true, and_self, ob_some, get_mk, lk_cons, ↓reduceIte, Nat.reduceEqDiff, ne_eq, not_true_eq_false, not_false_eq_true, Nat.one_ne_zero, Nat.zero_ne_one, Nat.succ_ne_self, Nat.reduceAdd, Bool.false_eq_true, false_implies, implies_true, reduceCtorEq, h0, List.nil_append]
theorem wBytesS {r l i : Nat} {bs : List Int} {bad : Bool} (hg : H.get i = some (wrO r l bad)) (hr : H.get r = some ⟨true, .ints .u8 bs⟩) (hr0 : r ≠ 0) (hl : l = bs.length) :
    SpecAt Tryz.prog nWBytes [.ptr i 0] H n (if bad then .tup [.v (.string ⟨#[]⟩), .v (.int .i64 1)] else .tup [.v (.string (tx bs)), .v (.int .i64 0)]) H n := okT.pure tWBytes (by
  unfold mWBytes
  unfold wrO at hg
  simp -implicitDefEqProofs only [↓fnVC, initTm]
  cases bad with
  | true =>
    simp -implicitDefEqProofs only [go_sem, hg]
  | false =>
    simp -implicitDefEqProofs only [go_sem, hg, hr, hl]
    rw [if_neg hr0]; trivial)
variable {H : Hp} {n : Nat} {x : Nat → Option SO}
theorem wNumS {i r y k : Nat} {bs : List Int} {bad : Bool} (hg : H.get i = some (wrO r bs.length bad)) (hr : H.get r = some ⟨true, .ints .u8 bs⟩) (hi : 0 < i ∧ i < 1000) (hr1 : 0 < r ∧ r < 1000) (hne : i ≠ r) (hn : n + 1 ≤ 1000)
    (hk : k ≤ 8) (hy : y < 9223372036854775808) (hf : k < 8 → y < 256 ^ k) (hb : bs.length ≤ 1099511627776) :
    SpecAt Tryz.prog nWNumber [.ptr i 0, .v (.int .i64 y), .v (.int .i64 k)] H n (.tup []) ⟨(i, some (wrO n (bs ++ be y k).length bad)) :: (r, none) :: (n, some ⟨true, .ints .u8 (bs ++ be y k)⟩) :: H.l, H.x⟩ (n + 1) := by
  have := lift (n := n) (okT.spec tWNumber (wNumW (x := H.x) hk hy hf hb)) [(1, i), (2, r)] rfl rfl rfl (by omega) rfl rfl
    ⟨sub_wr rfl hi.1 hi.2 hg rfl, sub_wr rfl hr1.1 hr1.2 hr rfl, trivial⟩ (by simp [apartB, apart1, rn, lk, hne, Ne.symm hne]) (by simp [wrNZ, rn, lk]; omega) (by omega)
  exact this
theorem wNum0S {i y k : Nat} {bad : Bool} (hg : H.get i = some ⟨true, .sv [.sl 0 0 0 1, .v (.bool bad)]⟩) (hi : 0 < i ∧ i < 1000) (hn : n + 1 ≤ 1000)
    (hk : k ≤ 8) (hy : y < 9223372036854775808) (hf : k < 8 → y < 256 ^ k) :
    SpecAt Tryz.prog nWNumber [.ptr i 0, .v (.int .i64 y), .v (.int .i64 k)] H n (.tup []) ⟨(i, some (wrO n (be y k).length bad)) :: (n, some ⟨true, .ints .u8 (be y k)⟩) :: H.l, H.x⟩ (n + 1) := by
  have := lift (n := n) (okT.spec tWNumber (wNum0W (x := H.x) (bs := []) hk hy hf (by decide) rfl)) [(1, i)] rfl rfl rfl (by omega) rfl rfl
    ⟨sub_wr rfl hi.1 hi.2 hg rfl, trivial⟩ (by simp [apartB, apart1, rn, lk]) (by simp [wrNZ, rn, lk]; omega) (by omega)
  exact this
theorem be_bytes {y k : Nat} : ∀ b ∈ be y k, 0 ≤ b ∧ b ≤ 255 := by
  intro b hb
  obtain ⟨j, _, rfl⟩ := List.mem_map.1 hb
  omega
variable {H : Hp} {n : Nat} {x : Nat → Option SO}
variable {H : Hp} {n : Nat} {x : Nat → Option SO}
def rdO (s : ByteArray) (e : Int) : SO := ⟨true, .sv [.v (.string s), .v (.int .i64 e)]⟩
theorem readW {s : ByteArray} : fnVC CT mPRead [.v (.string s)] ⟨[], x⟩ 1 fun v H' n' => Sub 1 ⟨[(0, .ptr 1 0)], ⟨[(1, some (rdO s 0))], x⟩, 2⟩ ⟨[(0, v)], H', n'⟩ := by
  unfold mPRead rdO
  simp -implicitDefEqProofs only [↓fnVC, initTm]
  simp -implicitDefEqProofs only [go_sem]
  refine sub_mk [] rfl rfl rfl ?_
  simp only [tmSub, hpSub, objSub, eqTm, eqHp, rn, lk, SV.ren, SV.renC, SV.renB, SV.renA, ren_ints, ren_strs, ren_pl, ren_svs, SV.v.injEq, Value.int.injEq, Body.ints.injEq, SV.ptr.injEq, SV.sl.injEq, Value.string.injEq, Value.bool.injEq, List.map_cons, List.map_nil, forall_const, Nat.reduceLT, Nat.lt_add_one, imp_self, true_and, and_true, and_self, ob_some, get_mk, lk_cons, ↓reduceIte, Nat.reduceEqDiff, ne_eq, not_true_eq_false, not_false_eq_true, Nat.one_ne_zero, Nat.zero_ne_one, Nat.succ_ne_self, Nat.reduceAdd, Bool.false_eq_true, false_implies, implies_true, reduceCtorEq]
  rfl
theorem errS {s : ByteArray} {e : Int} {i : Nat} (hg : H.get i = some (rdO s e)) : SpecAt Tryz.prog nRErr [.ptr i 0] H n (.v (.int .i64 e)) H n := okT.pure tRErr (by
  unfold mRErr
  unfold rdO at hg
  simp -implicitDefEqProofs only [↓fnVC, initTm]
  simp -implicitDefEqProofs only [go_sem, hg])
def rawE (s : ByteArray) (e : Int) (k : Nat) : Int := if e ≠ 0 then e else if s.size < k then 2 else 0
def rawS (s : ByteArray) (e : Int) (k : Nat) : ByteArray := if e ≠ 0 ∨ s.size < k then s else s.extract k s.size
def rawT (s : ByteArray) (e : Int) (k : Nat) : ByteArray := if e ≠ 0 ∨ s.size < k then ⟨#[]⟩ else s.extract 0 k
theorem rawW {s : ByteArray} {e : Int} {k : Nat} (hk : k ≤ 1048576) : fnVC CT mRRaw [.ptr 1 0, .v (.int .i64 k)] ⟨[(1, some (rdO s e))], x⟩ 2 fun v H' n' => Sub 2 ⟨[(0, .v (.string (rawT s e k)))], ⟨[(1, some (rdO (rawS s e k) (rawE s e k)))], x⟩, 2⟩ ⟨[(0, v)], H', n'⟩ := by
  unfold mRRaw
  have g1 : decide ((k : Int) < 0) = false := decide_eq_false (by omega)
  simp -implicitDefEqProofs only [↓fnVC, initTm]
  simp -implicitDefEqProofs only [go_sem]
  refine at_call tRErr (errS (i := 1) (by rfl)) ?_
  by_cases he : e = 0
  · subst he
    have g0 : decide ((0 : Int) = 0) = true := rfl
    by_cases hs : s.size < k
    · have g2 : decide ((k : Int) > (s.size : Int)) = true := decide_eq_true (by omega)
      have r1 : rawT s 0 k = ⟨#[]⟩ := by unfold rawT; rw [if_pos (.inr hs)]
      have r2 : rawS s 0 k = s := by unfold rawS; rw [if_pos (.inr hs)]
      have r3 : rawE s 0 k = 2 := by unfold rawE; rw [if_neg (by simp), if_pos hs]
      simp -implicitDefEqProofs only [go_sem, g0, g1, g2, rdO]
      rw [r1, r2, r3]
      refine sub_mk [] rfl rfl rfl ?_
      simp only [tmSub, hpSub, objSub, eqTm, eqHp, rn, lk, SV.ren, SV.renC, SV.renB, SV.renA, ren_ints, ren_strs, ren_pl, ren_svs, SV.v.injEq, Value.int.injEq, Body.ints.injEq, SV.ptr.injEq, SV.sl.injEq, Value.string.injEq, Value.bool.injEq, List.map_cons, List.map_nil, forall_const, Nat.reduceLT, Nat.lt_add_one, imp_self, true_and, and_true, and_self, ob_some, get_mk, lk_cons, ↓reduceIte, Nat.reduceEqDiff, ne_eq, not_true_eq_false, not_false_eq_true, Nat.one_ne_zero, Nat.zero_ne_one, Nat.succ_ne_self, Nat.reduceAdd, Bool.false_eq_true, false_implies, implies_true, reduceCtorEq]
    · have g2 : decide ((k : Int) > (s.size : Int)) = false := decide_eq_false (by omega)
      have r1 : rawT s 0 k = s.extract 0 k := by unfold rawT; rw [if_neg (by simp; omega)]
      have r2 : rawS s 0 k = s.extract k s.size := by unfold rawS; rw [if_neg (by simp; omega)]
      have r3 : rawE s 0 k = 0 := by unfold rawE; rw [if_neg (by simp), if_neg hs]
      simp -implicitDefEqProofs only [go_sem, g0, g1, g2, rdO]
      rw [r1, r2, r3]
      refine ⟨⟨by omega, by omega⟩, ⟨by omega, by omega, by omega⟩, ?_⟩
      refine sub_mk [] rfl rfl rfl ?_
      simp only [tmSub, hpSub, objSub, eqTm, eqHp, rn, lk, SV.ren, SV.renC, SV.renB, SV.renA, ren_ints, ren_strs, ren_pl, ren_svs, SV.v.injEq, Value.int.injEq, Body.ints.injEq, SV.ptr.injEq, SV.sl.injEq, Value.string.injEq, Value.bool.injEq, List.map_cons, List.map_nil, forall_const, Nat.reduceLT, Nat.lt_add_one, imp_self, true_and, and_true, and_self, ob_some, get_mk, lk_cons, ↓reduceIte, Nat.reduceEqDiff, ne_eq, not_true_eq_false, not_false_eq_true, Nat.one_ne_zero, Nat.zero_ne_one, Nat.succ_ne_self, Nat.reduceAdd, Bool.false_eq_true, false_implies, implies_true, reduceCtorEq]
  · have g0 : decide (e = 0) = false := decide_eq_false he
    have r1 : rawT s e k = ⟨#[]⟩ := by unfold rawT; rw [if_pos (.inl he)]
    have r2 : rawS s e k = s := by unfold rawS; rw [if_pos (.inl he)]
    have r3 : rawE s e k = e := by unfold rawE; rw [if_pos he]
    simp -implicitDefEqProofs only [go_sem, g0, rdO]
    rw [r1, r2, r3]
    refine sub_mk [] rfl rfl rfl ?_
    simp only [tmSub, hpSub, objSub, eqTm, eqHp, rn, lk, SV.ren, SV.renC, SV.renB, SV.renA, ren_ints, ren_strs, ren_pl, ren_svs, SV.v.injEq, Value.int.injEq, Body.ints.injEq, SV.ptr.injEq, SV.sl.injEq, Value.string.injEq, Value.bool.injEq, List.map_cons, List.map_nil, forall_const, Nat.reduceLT, Nat.lt_add_one, imp_self, true_and, and_true, and_self, ob_some, get_mk, lk_cons, ↓reduceIte, Nat.reduceEqDiff, ne_eq, not_true_eq_false, not_false_eq_true, Nat.one_ne_zero, Nat.zero_ne_one, Nat.succ_ne_self, Nat.reduceAdd, Bool.false_eq_true, false_implies, implies_true, reduceCtorEq]
theorem rawSp {s : ByteArray} {e : Int} {k i : Nat} (hg : H.get i = some (rdO s e)) (hi : 0 < i ∧ i < 1000) (hk : k ≤ 1048576) :
    SpecAt Tryz.prog nRRaw [.ptr i 0, .v (.int .i64 k)] H n (.v (.string (rawT s e k))) ⟨(i, some (rdO (rawS s e k) (rawE s e k))) :: H.l, H.x⟩ n := by
  have := lift (n := n) (okT.spec tRRaw (rawW (x := H.x) (s := s) (e := e) hk)) [(1, i)] rfl rfl rfl (by omega) rfl rfl
    ⟨sub_wr rfl hi.1 hi.2 hg rfl, trivial⟩ (by simp [apartB, apart1, rn, lk]) (by simp [wrNZ, rn, lk]; omega) (by omega)
  exact this
def failE (e f : Int) : Int := if e = 0 then f else e
variable {H : Hp} {n : Nat} {x : Nat → Option SO}
def nbs (t : ByteArray) : List Nat := t.data.toList.map (·.toNat)
def nvl (l : List Nat) : Nat := l.foldl (fun a b => a * 256 + b) 0
def num (t : ByteArray) : Nat := nvl (nbs t)
theorem nbs_len {t : ByteArray} : (nbs t).length = t.size := by unfold nbs; rw [List.length_map]; rfl
theorem nbs_lt {t : ByteArray} : ∀ b ∈ nbs t, b < 256 := by
  intro b hb
  obtain ⟨c, _, rfl⟩ := List.mem_map.1 hb
  exact c.toNat_lt
theorem nvl_snoc {l : List Nat} {b : Nat} : nvl (l ++ [b]) = nvl l * 256 + b := by simp [nvl, List.foldl_append]
theorem bts_nbs {t : ByteArray} : bts t = (nbs t).map (fun b : Nat => (b : Int)) := by unfold bts nbs; rw [List.map_map]; rfl
theorem nvl_bound {l : List Nat} (h : ∀ b ∈ l, b < 256) : ∀ {j}, j ≤ l.length → nvl (l.take j) < 256 ^ j
  | 0, _ => by simp [nvl]
  | j + 1, hj => by
    have ih := nvl_bound h (j := j) (by omega)
    have hb := h (l[j]'(by omega)) (List.getElem_mem _)
    rw [List.take_succ_eq_append_getElem (by omega), nvl_snoc, Nat.pow_succ]; omega
theorem nvl_small {l : List Nat} (h : ∀ b ∈ l, b < 256) (h0 : l.getD 0 0 < 128) : ∀ {j}, j ≤ l.length → 1 ≤ j → nvl (l.take j) < 128 * 256 ^ (j - 1)
  | 1, hj, _ => by
    match l, hj, h0 with
    | b :: r, _, h0 => simpa [nvl] using h0
  | j + 2, hj, _ => by
    have ih := nvl_small h h0 (j := j + 1) (by omega) (by omega)
    have hb := h (l[j + 1]'(by omega)) (List.getElem_mem _)
    rw [List.take_succ_eq_append_getElem (by omega), nvl_snoc, show j + 2 - 1 = (j + 1 - 1) + 1 by omega, Nat.pow_succ]
    have : j + 1 - 1 = j := by omega
    rw [this] at ih ⊢
    omega
theorem ior_byte {a b : Nat} (ha : a < 36028797018963968) (hb : b < 256) : ior .i64 ((a * 256 : Nat) : Int) (b : Int) = ((a * 256 + b : Nat) : Int) := by
  show IntKind.i64.wrap ((BitVec.ofInt 64 ((a * 256 : Nat) : Int) ||| BitVec.ofInt 64 (b : Int)).toNat : Nat) = _
  have e : (BitVec.ofInt 64 ((a * 256 : Nat) : Int) ||| BitVec.ofInt 64 (b : Int)).toNat = a * 256 + b := by
    rw [BitVec.ofInt_natCast, BitVec.ofInt_natCast, BitVec.toNat_or, BitVec.toNat_ofNat, BitVec.toNat_ofNat, Nat.mod_eq_of_lt (by omega), Nat.mod_eq_of_lt (by omega)]
    have := Nat.shiftLeft_add_eq_or_of_lt (i := 8) (b := b) (by omega) a
    rw [Nat.shiftLeft_eq, show 2 ^ 8 = 256 from rfl] at this
    omega
  rw [e, wrap_i64 (by omega) (by omega)]
theorem ishl_8 {a : Nat} (ha : a < 36028797018963968) : ishl .i64 (a : Int) 8 = ((a * 256 : Nat) : Int) := by
  unfold ishl
  have hm : min (8 : Int).toNat IntKind.i64.bits = 8 := by decide
  rw [hm, show (2 : Int) ^ 8 = 256 from rfl, wrap_i64 (by omega) (by omega)]; omega
def numOK (t : ByteArray) : Prop := t.size ≤ 7 ∨ (t.size = 8 ∧ (nbs t).getD 0 0 < 128)
theorem numOK.lt {t : ByteArray} (h : numOK t) {j : Nat} (hj : j < t.size) : nvl ((nbs t).take j) < 36028797018963968 := by
  rcases h with h | ⟨h, h0⟩
  · have := nvl_bound (l := nbs t) nbs_lt (j := j) (by rw [nbs_len]; omega)
    have h6 : 256 ^ j ≤ 256 ^ 6 := Nat.pow_le_pow_right (by decide) (by omega)
    have : (256 : Nat) ^ 6 = 281474976710656 := by decide
    omega
  · by_cases hj0 : j = 0
    · subst hj0; simp [nvl]
    · have := nvl_small (l := nbs t) nbs_lt h0 (j := j) (by rw [nbs_len]; omega) (by omega)
      have h6 : 256 ^ (j - 1) ≤ 256 ^ 6 := Nat.pow_le_pow_right (by decide) (by omega)
      have : (256 : Nat) ^ 6 = 281474976710656 := by decide
      omega
theorem bts_getD {t : ByteArray} {j : Nat} (hj : j < t.size) : (bts t).getD j 0 = (((nbs t).getD j 0 : Nat) : Int) := by
  have hl := nbs_len (t := t)
  rw [bts_nbs, List.getD_eq_getElem?_getD, List.getElem?_map, List.getD_eq_getElem?_getD, List.getElem?_eq_getElem (by omega)]; rfl
theorem num_step {t : ByteArray} {j : Nat} (hj : j < t.size) : nvl ((nbs t).take (j + 1)) = nvl ((nbs t).take j) * 256 + (nbs t).getD j 0 := by
  have hl := nbs_len (t := t)
  rw [List.take_succ_eq_append_getElem (by omega), nvl_snoc, List.getD_eq_getElem?_getD, List.getElem?_eq_getElem (by omega)]; rfl
theorem nbs_get_lt {t : ByteArray} {j : Nat} (hj : j < t.size) : (nbs t).getD j 0 < 256 := by
  have hl := nbs_len (t := t)
  rw [List.getD_eq_getElem?_getD, List.getElem?_eq_getElem (by omega)]; exact nbs_lt _ (List.getElem_mem _)
theorem numW {s : ByteArray} {e : Int} {k : Nat} (hk : k ≤ 8) (hok : numOK (rawT s e k)) : fnVC CT mRNumber [.ptr 1 0, .v (.int .i64 k)] ⟨[(1, some (rdO s e))], x⟩ 2 fun v H' n' => Sub 2 ⟨[(0, .v (.int .i64 (num (rawT s e k) : Nat)))], ⟨[(1, some (rdO (rawS s e k) (rawE s e k)))], x⟩, 2⟩ ⟨[(0, v)], H', n'⟩ := by
  unfold mRNumber
  simp -implicitDefEqProofs only [↓fnVC, initTm]
  simp -implicitDefEqProofs only [go_sem]
  refine at_call tRRaw (rawSp (i := 1) (k := k) (by rfl) (by decide) (by omega)) ?_
  generalize hT : rawT s e k = T at hok ⊢
  have hsz : T.size ≤ 8 := by rcases hok with h | h <;> omega
  simp -implicitDefEqProofs only [go_sem]
  refine ⟨by omega, ?_⟩
  refine loop_fam (fun (j : Nat) => j ≤ T.size) (fun j => ⟨[(5, .v (.int .i64 (nvl ((nbs T).take j) : Nat))), (11, .sl 2 0 T.size 1), (12, .v (.int .i64 (T.size : Nat))), (13, .v (.int .i64 j))], ⟨[(1, some (rdO (rawS s e k) (rawE s e k))), (2, some ⟨true, .ints .u8 (bts T)⟩)], x⟩, 3⟩) (fun j => T.size - j) 0 (Nat.zero_le _) ?_ ?_
  · refine sub_mk [] rfl rfl rfl ?_
    simp only [tmSub, hpSub, objSub, eqTm, eqHp, rn, lk, SV.ren, SV.renC, SV.renB, SV.renA, ren_ints, ren_strs, ren_pl, ren_svs, SV.v.injEq, Value.int.injEq, Body.ints.injEq, SV.ptr.injEq, SV.sl.injEq, Value.string.injEq, Value.bool.injEq, List.map_cons, List.map_nil, forall_const, Nat.reduceLT, Nat.lt_add_one, imp_self, true_and, and_true, and_self, ob_some, get_mk, lk_cons, ↓reduceIte, Nat.reduceEqDiff, ne_eq, not_true_eq_false, not_false_eq_true, Nat.one_ne_zero, Nat.zero_ne_one, Nat.succ_ne_self, Nat.reduceAdd, Bool.false_eq_true, false_implies, implies_true, reduceCtorEq]
    exact ⟨⟨rfl, rfl⟩, rfl⟩
  · intro j hj
    simp -implicitDefEqProofs only [go_sem]
    refine condK_bb (fun c => ?_) (fun c => ?_)
    · have c1 : j < T.size := by have := of_decide_eq_true c; omega
      have hb := bts_getD c1
      have hlt := nbs_get_lt c1
      have hv := hok.lt c1
      have w1 := ishl_8 hv
      have w2 : IntKind.i64.wrap (((nbs T).getD j 0 : Nat) : Int) = (((nbs T).getD j 0 : Nat) : Int) := wrap_i64 (by omega) (by omega)
      have w3 := ior_byte hv hlt
      have w4 : IntKind.i64.wrap ((j : Int) + 1) = ((j + 1 : Nat) : Int) := by rw [wrap_i64 (by omega) (by omega)]; omega
      have hs := num_step c1
      simp -implicitDefEqProofs only [go_sem, c, hb, w1, w2, w3, w4]
      refine ⟨⟨by omega, by omega⟩, by rw [bts_len]; exact c1, ?_⟩
      refine kLoop_mk (j + 1) (by omega) (by omega) ?_
      refine sub_mk [] rfl rfl rfl ?_
      simp only [tmSub, hpSub, objSub, eqTm, eqHp, rn, lk, SV.ren, SV.renC, SV.renB, SV.renA, ren_ints, ren_strs, ren_pl, ren_svs, SV.v.injEq, Value.int.injEq, Body.ints.injEq, SV.ptr.injEq, SV.sl.injEq, Value.string.injEq, Value.bool.injEq, List.map_cons, List.map_nil, forall_const, Nat.reduceLT, Nat.lt_add_one, imp_self, true_and, and_true, and_self, ob_some, get_mk, lk_cons, ↓reduceIte, Nat.reduceEqDiff, ne_eq, not_true_eq_false, not_false_eq_true, Nat.one_ne_zero, Nat.zero_ne_one, Nat.succ_ne_self, Nat.reduceAdd, Bool.false_eq_true, false_implies, implies_true, reduceCtorEq, w4, hs]
      rfl
    · have c1 : j = T.size := by have := of_decide_eq_false c; omega
      subst c1
      have hn : nvl ((nbs T).take T.size) = num T := by unfold num; rw [List.take_of_length_le (by rw [nbs_len]; exact Nat.le_refl _)]
      simp -implicitDefEqProofs only [go_sem, c]
      rw [hn]
      refine sub_mk [] rfl rfl rfl ?_
      simp only [tmSub, hpSub, objSub, eqTm, eqHp, rn, lk, SV.ren, SV.renC, SV.renB, SV.renA, ren_ints, ren_strs, ren_pl, ren_svs, SV.v.injEq, Value.int.injEq, Body.ints.injEq, SV.ptr.injEq, SV.sl.injEq, Value.string.injEq, Value.bool.injEq, List.map_cons, List.map_nil, forall_const, Nat.reduceLT, Nat.lt_add_one, imp_self, true_and, and_true, and_self, ob_some, get_mk, lk_cons, ↓reduceIte, Nat.reduceEqDiff, ne_eq, not_true_eq_false, not_false_eq_true, Nat.one_ne_zero, Nat.zero_ne_one, Nat.succ_ne_self, Nat.reduceAdd, Bool.false_eq_true, false_implies, implies_true, reduceCtorEq]
      rfl
theorem numSp {s : ByteArray} {e : Int} {k i : Nat} (hg : H.get i = some (rdO s e)) (hi : 0 < i ∧ i < 1000) (hk : k ≤ 8) (hok : numOK (rawT s e k)) :
    SpecAt Tryz.prog nRNumber [.ptr i 0, .v (.int .i64 k)] H n (.v (.int .i64 (num (rawT s e k) : Nat))) ⟨(i, some (rdO (rawS s e k) (rawE s e k))) :: H.l, H.x⟩ n := by
  have := lift (n := n) (okT.spec tRNumber (numW (x := H.x) (s := s) (e := e) hk hok)) [(1, i)] rfl rfl rfl (by omega) rfl rfl
    ⟨sub_wr rfl hi.1 hi.2 hg rfl, trivial⟩ (by simp [apartB, apart1, rn, lk]) (by simp [wrNZ, rn, lk]; omega) (by omega)
  exact this
def preE (s : ByteArray) (e : Int) : Int := if e = 0 ∧ 8 ≤ s.size ∧ 128 ≤ (nbs s).getD 0 0 then 3 else e
end
section
/- Trees, at this program. -/
set_option linter.unusedVariables false
set_option linter.unusedSimpArgs false
set_option maxRecDepth 100000
open Go.Proofs
variable {H : Hp} {n : Nat} {x : Nat → Option SO}
theorem seq_ne {a b : ByteArray} (h : a ≠ b) : seq a b = false := by
  unfold seq
  rw [ByteArray.toList_eq, ByteArray.toList_eq, beq_eq_false_iff_ne]
  intro e
  obtain ⟨⟨p⟩⟩ := a
  obtain ⟨⟨q⟩⟩ := b
  simp at e
  subst e
  exact h rfl
variable {H : Hp} {n : Nat} {x : Nat → Option SO}
theorem tx_bts (s : ByteArray) : tx (bts s) = s := by
  obtain ⟨⟨l⟩⟩ := s
  simp [tx, bts, Function.comp_def]
theorem bts_ext (s : ByteArray) (a b : Nat) : bts (s.extract a b) = ((bts s).drop a).take (b - a) := by
  simp [bts, ByteArray.data_extract, List.extract_eq_take_drop, List.map_take, List.map_drop]
variable {H : Hp} {n : Nat} {x : Nat → Option SO}
theorem tx_app (l m : List Int) : tx (l ++ m) = tx l ++ tx m := by
  unfold tx
  rw [List.map_append]
  apply ByteArray.ext
  simp
variable {H : Hp} {n : Nat} {x : Nat → Option SO}
theorem rawT_size {s : ByteArray} {e : Int} {k : Nat} : (rawT s e k).size ≤ k := by
  unfold rawT
  split
  · exact Nat.zero_le _
  · rw [ByteArray.size_extract]; omega
theorem ext_ext {s : ByteArray} {k a b : Nat} (h : k + b ≤ s.size) : (s.extract k s.size).extract a b = s.extract (k + a) (k + b) := by
  have hb : ∀ {p q : ByteArray}, p.data = q.data → p = q := fun h => ByteArray.ext h
  apply hb
  simp only [ByteArray.data_extract, Array.extract_extract]
  congr 1
  omega
theorem rd_at {s : ByteArray} {k w : Nat} (h : k + w ≤ s.size) : rawS (s.extract k s.size) 0 w = s.extract (k + w) s.size ∧ rawE (s.extract k s.size) 0 w = 0 ∧ rawT (s.extract k s.size) 0 w = s.extract k (k + w) := by
  have hz : (s.extract k s.size).size = s.size - k := by rw [ByteArray.size_extract]; omega
  refine ⟨?_, ?_, ?_⟩
  · unfold rawS; rw [if_neg (by omega), hz, ext_ext (by omega)]; congr 1; omega
  · unfold rawE; rw [if_neg (by omega), if_neg (by omega)]
  · unfold rawT; rw [if_neg (by omega), ext_ext h]; rfl
theorem ext_all (s : ByteArray) : s.extract 0 s.size = s := by
  apply ByteArray.ext
  simp
theorem preadS {s : ByteArray} (hn : n + 1 ≤ 1000) : SpecAt Tryz.prog nPRead [.v (.string s)] H n (.ptr n 0) ⟨(n, some (rdO s 0)) :: H.l, H.x⟩ (n + 1) := by
  have := lift (n := n) (okT.spec tPRead (readW (x := H.x) (s := s))) [] rfl rfl rfl (by omega) rfl rfl trivial rfl rfl (by omega)
  exact this
variable {H : Hp} {n : Nat} {x : Nat → Option SO}
theorem bts_inj {s t : ByteArray} (h : bts s = bts t) : s = t := by
  have e : s.data.toList = t.data.toList := by
    unfold bts at h
    refine List.map_inj_right (f := fun b : UInt8 => (b.toNat : Int)) (fun a b hab => ?_) |>.1 h
    have : a.toNat = b.toNat := by exact_mod_cast hab
    exact UInt8.toNat_inj.1 this
  cases s; cases t
  congr 1
  exact Array.toList_inj.1 e
theorem nbs_of_bts {t : ByteArray} {l : List Nat} (h : bts t = l.map (fun b : Nat => (b : Int))) : nbs t = l := by
  have h2 := bts_nbs (t := t)
  rw [h] at h2
  exact (List.map_inj_right (f := fun b : Nat => (b : Int)) (fun a b hab => by exact_mod_cast hab)).1 h2.symm
def beN (y k : Nat) : List Nat := (List.range k).map fun j => y / 256 ^ (k - 1 - j) % 256
theorem be_beN {y k : Nat} : be y k = (beN y k).map fun b : Nat => (b : Int) := by unfold be beN; rw [List.map_map]; rfl
theorem beN_get {y k j : Nat} (h : j < k) : (beN y k)[j]? = some (y / 256 ^ (k - 1 - j) % 256) := by
  unfold beN; rw [List.getElem?_map, List.getElem?_range h]; rfl
theorem beN_len {y k : Nat} : (beN y k).length = k := by simp [beN]
theorem nvl_be {y k : Nat} (hy : y < 256 ^ k) : ∀ {j}, j ≤ k → nvl ((beN y k).take j) = y / 256 ^ (k - j)
  | 0, _ => by simp [nvl, Nat.div_eq_of_lt hy]
  | j + 1, h => by
    have hg := beN_get (y := y) (k := k) (j := j) (by omega)
    rw [List.take_add_one, hg]
    show nvl ((beN y k).take j ++ [_]) = _
    rw [nvl_snoc, nvl_be hy (j := j) (by omega), show k - j = (k - 1 - j) + 1 by omega, Nat.pow_succ, ← Nat.div_div_eq_div_mul, show k - (j + 1) = k - 1 - j by omega]
    omega
theorem num_be {t : ByteArray} {y k : Nat} (h : bts t = be y k) (hy : y < 256 ^ k) : num t = y := by
  have e : nbs t = beN y k := nbs_of_bts (by rw [h, be_beN])
  unfold num
  rw [e]
  have := nvl_be hy (j := k) (Nat.le_refl _)
  rw [List.take_of_length_le (by rw [beN_len]; exact Nat.le_refl _), Nat.sub_self, Nat.pow_zero, Nat.div_one] at this
  exact this
end
section
/- Trees, at this program. -/
set_option linter.unusedVariables false
set_option linter.unusedSimpArgs false
set_option maxRecDepth 100000
open Go.Proofs
variable {H : Hp} {n : Nat} {x : Nat → Option SO}
theorem rdKS {f : Nat} {m : MFn} (t : trFn Tryz.prog f = some m) {k : Nat} {s : ByteArray} {e : Int} {i : Nat} (hm : ∀ x, fnVC CT m [.ptr 1 0] ⟨[(1, some (rdO s e))], x⟩ 2 fun v H' n' => Sub 2 ⟨[(0, .v (.int .i64 (num (rawT s e k) : Nat)))], ⟨[(1, some (rdO (rawS s e k) (rawE s e k)))], x⟩, 2⟩ ⟨[(0, v)], H', n'⟩)
    (hg : H.get i = some (rdO s e)) (hi : 0 < i ∧ i < 1000) :
    SpecAt Tryz.prog f [.ptr i 0] H n (.v (.int .i64 (num (rawT s e k) : Nat))) ⟨(i, some (rdO (rawS s e k) (rawE s e k))) :: H.l, H.x⟩ n := by
  have := lift (n := n) (okT.spec t (hm H.x)) [(1, i)] rfl rfl rfl (by omega) rfl rfl
    ⟨sub_wr rfl hi.1 hi.2 hg rfl, trivial⟩ (by simp [apartB, apart1, rn, lk]) (by simp [wrNZ, rn, lk]; omega) (by omega)
  exact this
theorem numOK7 {s : ByteArray} {e : Int} {k : Nat} (h : k ≤ 7) : numOK (rawT s e k) := .inl (Nat.le_trans rawT_size h)
theorem fourS {s : ByteArray} {e : Int} {i : Nat} (hg : H.get i = some (rdO s e)) (hi : 0 < i ∧ i < 1000) :
    SpecAt Tryz.prog nRFour [.ptr i 0] H n (.v (.int .i64 (num (rawT s e 4) : Nat))) ⟨(i, some (rdO (rawS s e 4) (rawE s e 4))) :: H.l, H.x⟩ n := rdKS tRFour (by
  intro x
  unfold mRFour
  simp -implicitDefEqProofs only [↓fnVC, initTm]
  simp -implicitDefEqProofs only [go_sem]
  refine at_call tRNumber (numSp (i := 1) (s := s) (e := e) (k := 4) (by rfl) (by decide) (by decide) (numOK7 (by decide))) ?_
  simp -implicitDefEqProofs only [go_sem]
  refine sub_mk [] rfl rfl rfl ?_
  simp only [tmSub, hpSub, objSub, eqTm, eqHp, rn, lk, SV.ren, SV.renC, SV.renB, SV.renA, ren_ints, ren_strs, ren_pl, ren_svs, List.map_cons, List.map_nil, forall_const, Nat.reduceLT, true_and, and_true, ob_some, get_mk, lk_cons, ↓reduceIte, Nat.reduceEqDiff, Nat.reduceAdd, implies_true, reduceCtorEq, rdO]) hg hi
theorem twoS {s : ByteArray} {e : Int} {i : Nat} (hg : H.get i = some (rdO s e)) (hi : 0 < i ∧ i < 1000) :
    SpecAt Tryz.prog nRTwo [.ptr i 0] H n (.v (.int .i64 (num (rawT s e 2) : Nat))) ⟨(i, some (rdO (rawS s e 2) (rawE s e 2))) :: H.l, H.x⟩ n := rdKS tRTwo (by
  intro x
  unfold mRTwo
  simp -implicitDefEqProofs only [↓fnVC, initTm]
  simp -implicitDefEqProofs only [go_sem]
  refine at_call tRNumber (numSp (i := 1) (s := s) (e := e) (k := 2) (by rfl) (by decide) (by decide) (numOK7 (by decide))) ?_
  simp -implicitDefEqProofs only [go_sem]
  refine sub_mk [] rfl rfl rfl ?_
  simp only [tmSub, hpSub, objSub, eqTm, eqHp, rn, lk, SV.ren, SV.renC, SV.renB, SV.renA, ren_ints, ren_strs, ren_pl, ren_svs, List.map_cons, List.map_nil, forall_const, Nat.reduceLT, true_and, and_true, ob_some, get_mk, lk_cons, ↓reduceIte, Nat.reduceEqDiff, Nat.reduceAdd, implies_true, reduceCtorEq, rdO]) hg hi
theorem num_lt' {t : ByteArray} (h : t.size ≤ 7) : num t < 72057594037927936 := by
  have := nvl_bound (l := nbs t) nbs_lt (j := (nbs t).length) (Nat.le_refl _)
  rw [List.take_length, nbs_len] at this
  refine Nat.lt_of_lt_of_le this (Nat.le_trans (Nat.pow_le_pow_right (by decide) h) (by decide))
theorem bts_app {a b : ByteArray} : bts (a ++ b) = bts a ++ bts b := by simp [bts]
theorem bts_bytes {a : ByteArray} : ∀ y ∈ bts a, 0 ≤ y ∧ y ≤ 255 := by
  intro y hy
  unfold bts at hy
  obtain ⟨b, _, rfl⟩ := List.mem_map.1 hy
  have := b.toNat_lt
  exact ⟨by omega, by omega⟩
theorem ba_nil {a : ByteArray} : (⟨#[]⟩ : ByteArray) ++ a = a := by apply ByteArray.ext; simp
theorem ba_zero {a : ByteArray} (h : a.size = 0) : a = ⟨#[]⟩ := by
  apply ByteArray.ext
  exact Array.eq_empty_of_size_eq_zero h
theorem loopU_fam {C : Tab} {base : Nat} {α : Type} (p : α → Prop) (I : α → St) (μ : α → Nat) (a0 : α) {b : MC} {s : St} {K : Ex → St → Prop} (h0 : p a0) (hs : Sub base (I a0) s)
    (hr : ∀ a, p a → vc C base b (I a) (kLoop base p I μ a K)) : LoopU base (vc C base b) 0 s K := by
  refine ⟨{a // p a}, fun a => I a.1, fun a => μ a.1, ⟨⟨a0, h0⟩, hs⟩, fun a => ?_⟩
  have := hr a.1 a.2
  refine vc_mono (fun e s' h => ?_) this
  cases e with
  | normal =>
    obtain ⟨a', h1, h2, h3⟩ := h
    exact ⟨⟨a', h1⟩, h3, h2⟩
  | exit j => exact h
  | ret => exact h
variable {H : Hp} {n : Nat} {x : Nat → Option SO}
theorem seq_emp {s : ByteArray} (h : s.size = 0) : seq s ⟨#[]⟩ = true := by rw [ba_zero h]; exact seq_self _
theorem seq_nemp {s : ByteArray} (h : ¬s.size = 0) : seq s ⟨#[]⟩ = false := seq_ne fun e => h (by rw [e]; rfl)
theorem ex_size {s : ByteArray} {a b : Nat} : (s.extract a b).size = min b s.size - a := ByteArray.size_extract
variable {H : Hp} {n : Nat} {x : Nat → Option SO}
theorem wKS {f : Nat} {m : MFn} {bs ys : List Int} {i r : Nat} (t : trFn Tryz.prog f = some m) {a : SV} (ha : ∀ π, a.ren π = a) (hlt : ltT 3 a = true)
    (hm : ∀ x, fnVC CT m [.ptr 1 0, a] ⟨[(1, some (wrO 2 bs.length false)), (2, some ⟨true, .ints .u8 bs⟩)], x⟩ 3 fun v H' n' => Sub 3 ⟨[(0, .tup [])], ⟨[(1, some (wrO 3 (bs ++ ys).length false)), (2, none), (3, some ⟨true, .ints .u8 (bs ++ ys)⟩)], x⟩, 4⟩ ⟨[(0, v)], H', n'⟩)
    (hg : H.get i = some (wrO r bs.length false)) (hr : H.get r = some ⟨true, .ints .u8 bs⟩) (hi : 0 < i ∧ i < 1000) (hr1 : 0 < r ∧ r < 1000) (hne : i ≠ r) (hn : n + 1 ≤ 1000) :
    SpecAt Tryz.prog f [.ptr i 0, a] H n (.tup []) ⟨(i, some (wrO n (bs ++ ys).length false)) :: (r, none) :: (n, some ⟨true, .ints .u8 (bs ++ ys)⟩) :: H.l, H.x⟩ (n + 1) := by
  have := lift (n := n) (okT.spec t (hm H.x)) [(1, i), (2, r)] rfl rfl (by simp [ltT, ltB, ltC, ltA, idOK] at hlt ⊢; exact hlt) (by omega) rfl rfl
    ⟨sub_wr rfl hi.1 hi.2 hg rfl, sub_wr rfl hr1.1 hr1.2 hr rfl, trivial⟩ (by simp [apartB, apart1, rn, lk, hne, Ne.symm hne]) (by simp [wrNZ, rn, lk]; omega) (by omega)
  rw [List.map_cons, List.map_cons, List.map_nil, ha] at this
  exact this
theorem wFourS {i r y : Nat} {bs : List Int} (hy : y < 4294967296) (hb : bs.length ≤ 1099511627776) (hg : H.get i = some (wrO r bs.length false)) (hr : H.get r = some ⟨true, .ints .u8 bs⟩) (hi : 0 < i ∧ i < 1000) (hr1 : 0 < r ∧ r < 1000) (hne : i ≠ r) (hn : n + 1 ≤ 1000) :
    SpecAt Tryz.prog nWFour [.ptr i 0, .v (.int .i64 y)] H n (.tup []) ⟨(i, some (wrO n (bs ++ be y 4).length false)) :: (r, none) :: (n, some ⟨true, .ints .u8 (bs ++ be y 4)⟩) :: H.l, H.x⟩ (n + 1) := wKS tWFour (fun _ => rfl) rfl (by
  intro x
  unfold mWFour
  simp -implicitDefEqProofs only [↓fnVC, initTm]
  simp -implicitDefEqProofs only [go_sem]
  refine at_call tWNumber (wNumS (i := 1) (r := 2) (k := 4) (y := y) (bs := bs) (bad := false) (by rfl) (by rfl) (by decide) (by decide) (by decide) (by decide) (by decide) (by omega) (fun _ => hy) hb) ?_
  simp -implicitDefEqProofs only [go_sem]
  refine sub_mk [] rfl rfl rfl ?_
  simp only [tmSub, hpSub, objSub, eqTm, eqHp, rn, lk, SV.ren, SV.renC, SV.renB, SV.renA, ren_ints, ren_strs, ren_pl, ren_svs, List.map_cons, List.map_nil, forall_const, Nat.reduceLT, true_and, and_true, ob_some, get_mk, lk_cons, ↓reduceIte, Nat.reduceEqDiff, Nat.reduceAdd, implies_true, reduceCtorEq, wrO]) hg hr hi hr1 hne hn
theorem wTextS {i r : Nat} {s : ByteArray} {bs : List Int} (hs : s.size < 65536) (hb : bs.length ≤ 1000000000) (hg : H.get i = some (wrO r bs.length false)) (hr : H.get r = some ⟨true, .ints .u8 bs⟩) (hi : 0 < i ∧ i < 1000) (hr1 : 0 < r ∧ r < 1000) (hne : i ≠ r) (hn : n + 1 ≤ 1000) :
    SpecAt Tryz.prog nWText [.ptr i 0, .v (.string s)] H n (.tup []) ⟨(i, some (wrO n (bs ++ (be s.size 2 ++ bts s)).length false)) :: (r, none) :: (n, some ⟨true, .ints .u8 (bs ++ (be s.size 2 ++ bts s))⟩) :: H.l, H.x⟩ (n + 1) := wKS tWText (fun _ => rfl) rfl (by
  intro x
  unfold mWText
  simp -implicitDefEqProofs only [↓fnVC, initTm]
  unfold wrO
  simp -implicitDefEqProofs only [go_sem]
  refine at_call tWNumber (wNumS (i := 1) (r := 2) (k := 2) (y := s.size) (bs := bs) (bad := false) (by rfl) (by rfl) (by decide) (by decide) (by decide) (by decide) (by decide) (by omega) (fun _ => hs) (by omega)) ?_
  unfold wrO
  simp -implicitDefEqProofs only [go_sem]
  refine ⟨by rw [List.length_append, be_len]; omega, ?_⟩
  refine sub_mk [(3, 4)] rfl rfl rfl ?_
  simp only [tmSub, hpSub, objSub, eqTm, eqHp, rn, lk, SV.ren, SV.renC, SV.renB, SV.renA, ren_ints, ren_strs, ren_pl, ren_svs, List.map_cons, List.map_nil, forall_const, Nat.reduceLT, true_and, and_true, ob_some, get_mk, lk_cons, ↓reduceIte, Nat.reduceEqDiff, Nat.reduceAdd, implies_true, reduceCtorEq]
  rw [← List.append_assoc, List.length_append (bs := bts s), bts_len]
  repeat' (first | rfl | apply And.intro)) hg hr hi hr1 hne hn
theorem ex_l {a b : ByteArray} {i j : Nat} (h : j ≤ a.size) : (a ++ b).extract i j = a.extract i j := by
  apply bts_inj
  rw [bts_ext, bts_ext, bts_app]
  have hl := bts_len a
  by_cases c : i ≤ j
  · rw [List.drop_append_of_le_length (by omega), List.take_append_of_le_length (by rw [List.length_drop]; omega)]
  · rw [show j - i = 0 by omega]; rfl
theorem ex_r {a b : ByteArray} {k : Nat} (h : a.size = k) : (a ++ b).extract k (a ++ b).size = b := by
  apply bts_inj
  rw [bts_ext, bts_app]
  have hl := bts_len a
  rw [List.drop_left' (by omega), List.take_of_length_le (by rw [bts_len, ByteArray.size_append]; omega)]
theorem ex_a {a b : ByteArray} {k : Nat} (h : a.size = k) : (a ++ b).extract 0 k = a := by
  rw [ex_l (by omega), ← h, ext_all]
theorem app_nil {a : ByteArray} : a ++ (⟨#[]⟩ : ByteArray) = a := by apply ByteArray.ext; simp
end
section
/- Small things, at this program. -/
set_option linter.unusedVariables false
set_option linter.unusedSimpArgs false
set_option maxRecDepth 100000
open Go.Proofs
variable {H : Hp} {n : Nat} {x : Nat → Option SO}
variable {H : Hp} {n : Nat} {x : Nat → Option SO}
variable {H : Hp} {n : Nat} {x : Nat → Option SO}
variable {H : Hp} {n : Nat} {x : Nat → Option SO}
variable {H : Hp} {n : Nat} {x : Nat → Option SO}
theorem wHashW {bs : List Int} {bad : Bool} {h : ByteArray} (hb : bs.length ≤ 1099511627776) (hh : h.size ≤ 536870000) :
    fnVC CT mWHash [.ptr 1 0, .v (.string h)] ⟨[(1, some (wrO 2 bs.length bad)), (2, some ⟨true, .ints .u8 bs⟩)], x⟩ 3 fun v H' n' => Sub 3 ⟨[(0, .tup [])], ⟨[(1, some (wrO 3 (bs ++ bts h).length (bad || decide (h.size ≠ 32)))), (2, none), (3, some ⟨true, .ints .u8 (bs ++ bts h)⟩)], x⟩, 4⟩ ⟨[(0, v)], H', n'⟩ := by
  unfold mWHash wrO
  simp -implicitDefEqProofs only [↓fnVC, initTm]
  cases bad with
  | true =>
    simp -implicitDefEqProofs only [go_sem]
    refine ⟨by omega, sub_mk [] rfl rfl rfl ?_⟩
    simp only [tmSub, hpSub, objSub, eqTm, eqHp, rn, lk, SV.ren, SV.renC, SV.renB, SV.renA, ren_ints, ren_strs, ren_pl, ren_svs, SV.v.injEq, Value.int.injEq, Body.ints.injEq, SV.ptr.injEq, SV.sl.injEq, List.map_cons, List.map_nil, forall_const, Nat.reduceLT, imp_self, true_and, and_true, and_self, ob_some, get_mk, lk_cons, ↓reduceIte, Nat.reduceEqDiff, Nat.reduceAdd, false_implies, implies_true, reduceCtorEq, List.length_append, bts_len, Bool.true_or]
  | false =>
    simp -implicitDefEqProofs only [go_sem]
    refine ⟨by omega, sub_mk [] rfl rfl rfl ?_⟩
    have e : (false || decide (h.size ≠ 32)) = !decide ((h.size : Int) = 32) := by
      by_cases hh : h.size = 32
      · rw [hh]; rfl
      · rw [decide_eq_true hh, decide_eq_false (by omega)]; rfl
    rw [e]
    simp only [tmSub, hpSub, objSub, eqTm, eqHp, rn, lk, SV.ren, SV.renC, SV.renB, SV.renA, ren_ints, ren_strs, ren_pl, ren_svs, SV.v.injEq, Value.int.injEq, Body.ints.injEq, SV.ptr.injEq, SV.sl.injEq, List.map_cons, List.map_nil, forall_const, Nat.reduceLT, imp_self, true_and, and_true, and_self, ob_some, get_mk, lk_cons, ↓reduceIte, Nat.reduceEqDiff, Nat.reduceAdd, false_implies, implies_true, reduceCtorEq, List.length_append, bts_len]
variable {H : Hp} {n : Nat} {x : Nat → Option SO}
theorem wHashS {i r : Nat} {bs : List Int} {bad : Bool} {h : ByteArray} (hg : H.get i = some (wrO r bs.length bad)) (hr : H.get r = some ⟨true, .ints .u8 bs⟩) (hi : 0 < i ∧ i < 1000) (hr1 : 0 < r ∧ r < 1000) (hne : i ≠ r) (hn : n + 1 ≤ 1000)
    (hb : bs.length ≤ 1099511627776) (hh : h.size ≤ 536870000) :
    SpecAt Tryz.prog nWHash [.ptr i 0, .v (.string h)] H n (.tup []) ⟨(i, some (wrO n (bs ++ bts h).length (bad || decide (h.size ≠ 32)))) :: (r, none) :: (n, some ⟨true, .ints .u8 (bs ++ bts h)⟩) :: H.l, H.x⟩ (n + 1) := by
  have := lift (n := n) (okT.spec tWHash (wHashW (x := H.x) hb hh)) [(1, i), (2, r)] rfl rfl rfl (by omega) rfl rfl
    ⟨sub_wr rfl hi.1 hi.2 hg rfl, sub_wr rfl hr1.1 hr1.2 hr rfl, trivial⟩ (by simp [apartB, apart1, rn, lk, hne, Ne.symm hne]) (by simp [wrNZ, rn, lk]; omega) (by omega)
  exact this
variable {H : Hp} {n : Nat} {x : Nat → Option SO}
variable {H : Hp} {n : Nat} {x : Nat → Option SO}
theorem hashSp {s : ByteArray} {e : Int} {i : Nat} (hg : H.get i = some (rdO s e)) (hi : 0 < i ∧ i < 1000) :
    SpecAt Tryz.prog nRHash [.ptr i 0] H n (.v (.string (rawT s e 32))) ⟨(i, some (rdO (rawS s e 32) (rawE s e 32))) :: H.l, H.x⟩ n := by
  have := lift (n := n) (okT.spec tRHash (args := [.ptr 1 0]) (H := ⟨[(1, some (rdO s e))], H.x⟩) (n := 2) (v := .v (.string (rawT s e 32))) (H' := ⟨[(1, some (rdO (rawS s e 32) (rawE s e 32)))], H.x⟩) (n' := 2) (by
    unfold mRHash
    simp -implicitDefEqProofs only [↓fnVC, initTm]
    simp -implicitDefEqProofs only [go_sem]
    refine at_call tRRaw (rawSp (i := 1) (k := 32) (by rfl) (by decide) (by decide)) ?_
    simp -implicitDefEqProofs only [go_sem]
    refine sub_mk [] rfl rfl rfl ?_
    simp only [tmSub, hpSub, objSub, eqTm, eqHp, rn, lk, SV.ren, SV.renC, SV.renB, SV.renA, ren_ints, ren_strs, ren_pl, ren_svs, SV.v.injEq, Value.int.injEq, Body.ints.injEq, SV.ptr.injEq, SV.sl.injEq, List.map_cons, List.map_nil, forall_const, Nat.reduceLT, imp_self, true_and, and_true, and_self, ob_some, get_mk, lk_cons, ↓reduceIte, Nat.reduceEqDiff, Nat.reduceAdd, false_implies, implies_true, reduceCtorEq]
    rfl)) [(1, i)] rfl rfl rfl (by omega) rfl rfl
    ⟨sub_wr rfl hi.1 hi.2 hg rfl, trivial⟩ (by simp [apartB, apart1, rn, lk]) (by simp [wrNZ, rn, lk]; omega) (by omega)
  exact this
variable {H : Hp} {n : Nat} {x : Nat → Option SO}
variable {H : Hp} {n : Nat} {x : Nat → Option SO}
variable {H : Hp} {n : Nat} {x : Nat → Option SO}
variable {H : Hp} {n : Nat} {x : Nat → Option SO}
variable {H : Hp} {n : Nat} {x : Nat → Option SO}
variable {H : Hp} {n : Nat} {x : Nat → Option SO}
end
section
/- Trees, at this program. -/
set_option linter.unusedVariables false
set_option linter.unusedSimpArgs false
set_option maxRecDepth 100000
open Go.Proofs
variable {H : Hp} {n : Nat} {x : Nat → Option SO}
theorem leftS {s : ByteArray} {e : Int} {i : Nat} (hg : H.get i = some (rdO s e)) : SpecAt Tryz.prog nRLeft [.ptr i 0] H n (.v (.int .i64 (s.size : Nat))) H n := okT.pure tRLeft (by
  unfold mRLeft
  unfold rdO at hg
  simp -implicitDefEqProofs only [↓fnVC, initTm]
  simp -implicitDefEqProofs only [go_sem, hg])
theorem failW {s : ByteArray} {e f : Int} : fnVC CT mRFail [.ptr 1 0, .v (.int .i64 f)] ⟨[(1, some (rdO s e))], x⟩ 2 fun v H' n' => Sub 2 ⟨[(0, .tup [])], ⟨[(1, some (rdO s (failE e f)))], x⟩, 2⟩ ⟨[(0, v)], H', n'⟩ := by
  unfold mRFail
  simp -implicitDefEqProofs only [↓fnVC, initTm]
  simp -implicitDefEqProofs only [go_sem]
  refine at_call tRErr (errS (i := 1) (by rfl)) ?_
  unfold failE
  by_cases he : e = 0
  · have g0 : decide (e = 0) = true := decide_eq_true he
    rw [if_pos he]
    simp -implicitDefEqProofs only [go_sem, g0, rdO]
    refine sub_mk [] rfl rfl rfl ?_
    simp only [tmSub, hpSub, objSub, eqTm, eqHp, rn, lk, SV.ren, SV.renC, SV.renB, SV.renA, ren_ints, ren_strs, ren_pl, ren_svs, SV.v.injEq, Value.int.injEq, Body.ints.injEq, SV.ptr.injEq, SV.sl.injEq, List.map_cons, List.map_nil, forall_const, Nat.reduceLT, imp_self, true_and, and_true, and_self, ob_some, get_mk, lk_cons, ↓reduceIte, Nat.reduceEqDiff, Nat.reduceAdd, false_implies, implies_true, reduceCtorEq]
  · have g0 : decide (e = 0) = false := decide_eq_false he
    rw [if_neg he]
    simp -implicitDefEqProofs only [go_sem, g0, rdO]
    refine sub_mk [] rfl rfl rfl ?_
    simp only [tmSub, hpSub, objSub, eqTm, eqHp, rn, lk, SV.ren, SV.renC, SV.renB, SV.renA, ren_ints, ren_strs, ren_pl, ren_svs, SV.v.injEq, Value.int.injEq, Body.ints.injEq, SV.ptr.injEq, SV.sl.injEq, List.map_cons, List.map_nil, forall_const, Nat.reduceLT, imp_self, true_and, and_true, and_self, ob_some, get_mk, lk_cons, ↓reduceIte, Nat.reduceEqDiff, Nat.reduceAdd, false_implies, implies_true, reduceCtorEq]
theorem failSp {s : ByteArray} {e f : Int} {i : Nat} (hg : H.get i = some (rdO s e)) (hi : 0 < i ∧ i < 1000) :
    SpecAt Tryz.prog nRFail [.ptr i 0, .v (.int .i64 f)] H n (.tup []) ⟨(i, some (rdO s (failE e f))) :: H.l, H.x⟩ n := by
  have := lift (n := n) (okT.spec tRFail (failW (x := H.x) (s := s) (e := e) (f := f))) [(1, i)] rfl rfl rfl (by omega) rfl rfl
    ⟨sub_wr rfl hi.1 hi.2 hg rfl, trivial⟩ (by simp [apartB, apart1, rn, lk]) (by simp [wrNZ, rn, lk]; omega) (by omega)
  exact this
variable {H : Hp} {n : Nat} {x : Nat → Option SO}
theorem eight_ok {s : ByteArray} {e : Int} : numOK (rawT s (preE s e) 8) := by
  unfold rawT
  by_cases h : preE s e ≠ 0 ∨ s.size < 8
  · rw [if_pos h]; exact .inl (by decide)
  · rw [if_neg h]
    have h1 : preE s e = 0 := by
      by_cases h0 : preE s e = 0
      · exact h0
      · exact absurd (.inl h0) h
    have h2 : 8 ≤ s.size := by omega
    have h3 : (nbs s).getD 0 0 < 128 := by
      unfold preE at h1
      split at h1
      · omega
      · rename_i hn
        by_cases h4 : 128 ≤ (nbs s).getD 0 0
        · exact absurd ⟨h1, h2, h4⟩ hn
        · omega
    refine .inr ⟨by rw [ByteArray.size_extract]; omega, ?_⟩
    have e1 : nbs (s.extract 0 8) = (nbs s).take 8 := by
      unfold nbs; simp [ByteArray.data_extract, List.extract_eq_take_drop, List.map_take]
    rw [e1, List.getD_eq_getElem?_getD, List.getElem?_take, if_pos (by decide), ← List.getD_eq_getElem?_getD]; exact h3
theorem eightSp {s : ByteArray} {e : Int} {i : Nat} (hg : H.get i = some (rdO s e)) (hi : 0 < i ∧ i < 1000) :
    SpecAt Tryz.prog nREight [.ptr i 0] H n (.v (.int .i64 (num (rawT s (preE s e) 8) : Nat))) ⟨(i, some (rdO (rawS s (preE s e) 8) (rawE s (preE s e) 8))) :: H.l, H.x⟩ n := by
  have := lift (n := n) (okT.spec tREight (args := [.ptr 1 0]) (H := ⟨[(1, some (rdO s e))], H.x⟩) (n := 2) (v := .v (.int .i64 (num (rawT s (preE s e) 8) : Nat))) (H' := ⟨[(1, some (rdO (rawS s (preE s e) 8) (rawE s (preE s e) 8)))], H.x⟩) (n' := 2) (by
    have hok := eight_ok (s := s) (e := e)
    unfold mREight
    simp -implicitDefEqProofs only [↓fnVC, initTm]
    simp -implicitDefEqProofs only [go_sem]
    refine at_call tRLeft (leftS (i := 1) (by rfl)) ?_
    by_cases h8 : 8 ≤ s.size
    · have g0 : decide ((s.size : Int) ≥ 8) = true := decide_eq_true (by omega)
      have hb := bts_getD (t := s) (j := 0) (by omega)
      by_cases h128 : 128 ≤ (nbs s).getD 0 0
      · have g1 : decide ((((nbs s).getD 0 0 : Nat) : Int) > 127) = true := decide_eq_true (by omega)
        have hE : failE e 3 = preE s e := by
          unfold failE preE
          by_cases h0 : e = 0
          · rw [if_pos h0, if_pos ⟨h0, h8, h128⟩]
          · rw [if_neg h0, if_neg (fun h => h0 h.1)]
        simp -implicitDefEqProofs only [go_sem, g0, rdO, hb, g1]
        refine ⟨by omega, ?_⟩
        refine at_call tRFail (failSp (i := 1) (s := s) (e := e) (f := 3) (by rfl) (by decide)) ?_
        rw [hE]
        simp -implicitDefEqProofs only [go_sem]
        refine at_call tRNumber (numSp (i := 1) (k := 8) (s := s) (e := preE s e) (by rfl) (by decide) (by decide) hok) ?_
        simp -implicitDefEqProofs only [go_sem]
        refine sub_mk [] rfl rfl rfl ?_
        simp only [tmSub, hpSub, objSub, eqTm, eqHp, rn, lk, SV.ren, SV.renC, SV.renB, SV.renA, ren_ints, ren_strs, ren_pl, ren_svs, SV.v.injEq, Value.int.injEq, Body.ints.injEq, SV.ptr.injEq, SV.sl.injEq, List.map_cons, List.map_nil, forall_const, Nat.reduceLT, imp_self, true_and, and_true, and_self, ob_some, get_mk, lk_cons, ↓reduceIte, Nat.reduceEqDiff, Nat.reduceAdd, false_implies, implies_true, reduceCtorEq]
        rfl
      · have g1 : decide ((((nbs s).getD 0 0 : Nat) : Int) > 127) = false := decide_eq_false (by omega)
        have hE : preE s e = e := by unfold preE; rw [if_neg (fun h => h128 h.2.2)]
        rw [hE] at hok ⊢
        simp -implicitDefEqProofs only [go_sem, g0, rdO, hb, g1]
        refine ⟨by omega, ?_⟩
        refine at_call tRNumber (numSp (i := 1) (k := 8) (s := s) (e := e) (by rfl) (by decide) (by decide) hok) ?_
        simp -implicitDefEqProofs only [go_sem]
        refine sub_mk [] rfl rfl rfl ?_
        simp only [tmSub, hpSub, objSub, eqTm, eqHp, rn, lk, SV.ren, SV.renC, SV.renB, SV.renA, ren_ints, ren_strs, ren_pl, ren_svs, SV.v.injEq, Value.int.injEq, Body.ints.injEq, SV.ptr.injEq, SV.sl.injEq, List.map_cons, List.map_nil, forall_const, Nat.reduceLT, imp_self, true_and, and_true, and_self, ob_some, get_mk, lk_cons, ↓reduceIte, Nat.reduceEqDiff, Nat.reduceAdd, false_implies, implies_true, reduceCtorEq, rdO]
    · have g0 : decide ((s.size : Int) ≥ 8) = false := decide_eq_false (by omega)
      have hE : preE s e = e := by unfold preE; rw [if_neg (fun h => h8 h.2.1)]
      rw [hE] at hok ⊢
      simp -implicitDefEqProofs only [go_sem, g0]
      refine at_call tRNumber (numSp (i := 1) (k := 8) (by rfl) (by decide) (by decide) hok) ?_
      simp -implicitDefEqProofs only [go_sem]
      refine sub_mk [] rfl rfl rfl ?_
      simp only [tmSub, hpSub, objSub, eqTm, eqHp, rn, lk, SV.ren, SV.renC, SV.renB, SV.renA, ren_ints, ren_strs, ren_pl, ren_svs, SV.v.injEq, Value.int.injEq, Body.ints.injEq, SV.ptr.injEq, SV.sl.injEq, List.map_cons, List.map_nil, forall_const, Nat.reduceLT, imp_self, true_and, and_true, and_self, ob_some, get_mk, lk_cons, ↓reduceIte, Nat.reduceEqDiff, Nat.reduceAdd, false_implies, implies_true, reduceCtorEq]
      rfl)) [(1, i)] rfl rfl rfl (by omega) rfl rfl
    ⟨sub_wr rfl hi.1 hi.2 hg rfl, trivial⟩ (by simp [apartB, apart1, rn, lk]) (by simp [wrNZ, rn, lk]; omega) (by omega)
  exact this
end
section
/- Trees, at this program. -/
set_option linter.unusedVariables false
set_option linter.unusedSimpArgs false
set_option maxRecDepth 100000
open Go.Proofs
variable {H : Hp} {n : Nat} {x : Nat → Option SO}
theorem rfailW {s : ByteArray} {e f : Int} : fnVC CT mrRFail [.ptr 1 0, .v (.int .i64 f)] ⟨[(1, some (rdO s e))], x⟩ 2 fun v H' n' => Sub 2 ⟨[(0, .tup [])], ⟨[(1, some (rdO s (failE e f)))], x⟩, 2⟩ ⟨[(0, v)], H', n'⟩ := by
  unfold mrRFail rdO
  unfold failE
  by_cases he : e = 0
  · have g0 : decide (e = 0) = true := decide_eq_true he
    rw [if_pos he]
    simp -implicitDefEqProofs only [↓fnVC, initTm]
    simp -implicitDefEqProofs only [go_sem, g0]
    refine sub_mk [] rfl rfl rfl ?_
    simp only [tmSub, hpSub, objSub, eqTm, eqHp, rn, lk, SV.ren, SV.renC, SV.renB, SV.renA, ren_ints, ren_strs, ren_pl, ren_svs, SV.v.injEq, Value.int.injEq, Body.ints.injEq, SV.ptr.injEq, SV.sl.injEq, List.map_cons, List.map_nil, forall_const, Nat.reduceLT, imp_self, true_and, and_true, and_self, ob_some, get_mk, lk_cons, ↓reduceIte, Nat.reduceEqDiff, Nat.reduceAdd, false_implies, implies_true, reduceCtorEq]
  · have g0 : decide (e = 0) = false := decide_eq_false he
    rw [if_neg he]
    simp -implicitDefEqProofs only [↓fnVC, initTm]
    simp -implicitDefEqProofs only [go_sem, g0]
    refine sub_mk [] rfl rfl rfl ?_
    simp only [tmSub, hpSub, objSub, eqTm, eqHp, rn, lk, SV.ren, SV.renC, SV.renB, SV.renA, ren_ints, ren_strs, ren_pl, ren_svs, SV.v.injEq, Value.int.injEq, Body.ints.injEq, SV.ptr.injEq, SV.sl.injEq, List.map_cons, List.map_nil, forall_const, Nat.reduceLT, imp_self, true_and, and_true, and_self, ob_some, get_mk, lk_cons, ↓reduceIte, Nat.reduceEqDiff, Nat.reduceAdd, false_implies, implies_true, reduceCtorEq]
theorem rfailSp {s : ByteArray} {e f : Int} {i : Nat} (hg : H.get i = some (rdO s e)) (hi : 0 < i ∧ i < 1000) :
    SpecAt Tryz.prog nrRFail [.ptr i 0, .v (.int .i64 f)] H n (.tup []) ⟨(i, some (rdO s (failE e f))) :: H.l, H.x⟩ n := by
  have := lift (n := n) (okT.spec trRFail (rfailW (x := H.x) (s := s) (e := e) (f := f))) [(1, i)] rfl rfl rfl (by omega) rfl rfl
    ⟨sub_wr rfl hi.1 hi.2 hg rfl, trivial⟩ (by simp [apartB, apart1, rn, lk]) (by simp [wrNZ, rn, lk]; omega) (by omega)
  exact this
theorem rrawW {s : ByteArray} {e : Int} {k : Nat} (hk : k ≤ 1048576) : fnVC CT mrRRaw [.ptr 1 0, .v (.int .i64 k)] ⟨[(1, some (rdO s e))], x⟩ 2 fun v H' n' => Sub 2 ⟨[(0, .v (.string (rawT s e k)))], ⟨[(1, some (rdO (rawS s e k) (rawE s e k)))], x⟩, 2⟩ ⟨[(0, v)], H', n'⟩ := by
  unfold mrRRaw
  have g1 : decide ((k : Int) < 0) = false := decide_eq_false (by omega)
  by_cases he : e = 0
  · subst he
    have g0 : decide ((0 : Int) = 0) = true := rfl
    by_cases hs : s.size < k
    · have g2 : decide ((k : Int) > (s.size : Int)) = true := decide_eq_true (by omega)
      have r1 : rawT s 0 k = ⟨#[]⟩ := by unfold rawT; rw [if_pos (.inr hs)]
      have r2 : rawS s 0 k = s := by unfold rawS; rw [if_pos (.inr hs)]
      have r3 : rawE s 0 k = 2 := by unfold rawE; rw [if_neg (by simp), if_pos hs]
      simp -implicitDefEqProofs only [↓fnVC, initTm]
      simp -implicitDefEqProofs only [go_sem, g0, g1, g2, rdO]
      refine at_call trRFail (rfailSp (i := 1) (s := s) (e := 0) (by rfl) (by decide)) ?_
      have r4 : failE 0 2 = 2 := rfl
      simp -implicitDefEqProofs only [go_sem]
      rw [r1, r2, r3, r4]
      refine sub_mk [] rfl rfl rfl ?_
      simp only [tmSub, hpSub, objSub, eqTm, eqHp, rn, lk, SV.ren, SV.renC, SV.renB, SV.renA, ren_ints, ren_strs, ren_pl, ren_svs, SV.v.injEq, Value.int.injEq, Body.ints.injEq, SV.ptr.injEq, SV.sl.injEq, List.map_cons, List.map_nil, forall_const, Nat.reduceLT, imp_self, true_and, and_true, and_self, ob_some, get_mk, lk_cons, ↓reduceIte, Nat.reduceEqDiff, Nat.reduceAdd, false_implies, implies_true, reduceCtorEq, rdO]
    · have g2 : decide ((k : Int) > (s.size : Int)) = false := decide_eq_false (by omega)
      have r1 : rawT s 0 k = s.extract 0 k := by unfold rawT; rw [if_neg (by simp; omega)]
      have r2 : rawS s 0 k = s.extract k s.size := by unfold rawS; rw [if_neg (by simp; omega)]
      have r3 : rawE s 0 k = 0 := by unfold rawE; rw [if_neg (by simp), if_neg hs]
      simp -implicitDefEqProofs only [↓fnVC, initTm]
      simp -implicitDefEqProofs only [go_sem, g0, g1, g2, rdO]
      rw [r1, r2, r3]
      refine ⟨⟨by omega, by omega⟩, ⟨by omega, by omega, by omega⟩, ?_⟩
      refine sub_mk [] rfl rfl rfl ?_
      simp only [tmSub, hpSub, objSub, eqTm, eqHp, rn, lk, SV.ren, SV.renC, SV.renB, SV.renA, ren_ints, ren_strs, ren_pl, ren_svs, SV.v.injEq, Value.int.injEq, Body.ints.injEq, SV.ptr.injEq, SV.sl.injEq, List.map_cons, List.map_nil, forall_const, Nat.reduceLT, imp_self, true_and, and_true, and_self, ob_some, get_mk, lk_cons, ↓reduceIte, Nat.reduceEqDiff, Nat.reduceAdd, false_implies, implies_true, reduceCtorEq]
  · have g0 : decide (e = 0) = false := decide_eq_false he
    have r1 : rawT s e k = ⟨#[]⟩ := by unfold rawT; rw [if_pos (.inl he)]
    have r2 : rawS s e k = s := by unfold rawS; rw [if_pos (.inl he)]
    have r3 : rawE s e k = e := by unfold rawE; rw [if_pos he]
    simp -implicitDefEqProofs only [↓fnVC, initTm]
    simp -implicitDefEqProofs only [go_sem, g0, rdO]
    rw [r1, r2, r3]
    refine sub_mk [] rfl rfl rfl ?_
    simp only [tmSub, hpSub, objSub, eqTm, eqHp, rn, lk, SV.ren, SV.renC, SV.renB, SV.renA, ren_ints, ren_strs, ren_pl, ren_svs, SV.v.injEq, Value.int.injEq, Body.ints.injEq, SV.ptr.injEq, SV.sl.injEq, List.map_cons, List.map_nil, forall_const, Nat.reduceLT, imp_self, true_and, and_true, and_self, ob_some, get_mk, lk_cons, ↓reduceIte, Nat.reduceEqDiff, Nat.reduceAdd, false_implies, implies_true, reduceCtorEq]
theorem rrawSp {s : ByteArray} {e : Int} {k i : Nat} (hg : H.get i = some (rdO s e)) (hi : 0 < i ∧ i < 1000) (hk : k ≤ 1048576) :
    SpecAt Tryz.prog nrRRaw [.ptr i 0, .v (.int .i64 k)] H n (.v (.string (rawT s e k))) ⟨(i, some (rdO (rawS s e k) (rawE s e k))) :: H.l, H.x⟩ n := by
  have := lift (n := n) (okT.spec trRRaw (rrawW (x := H.x) (s := s) (e := e) hk)) [(1, i)] rfl rfl rfl (by omega) rfl rfl
    ⟨sub_wr rfl hi.1 hi.2 hg rfl, trivial⟩ (by simp [apartB, apart1, rn, lk]) (by simp [wrNZ, rn, lk]; omega) (by omega)
  exact this
variable {H : Hp} {n : Nat} {x : Nat → Option SO}
theorem reightSp {s : ByteArray} {e : Int} {i : Nat} (hg : H.get i = some (rdO s e)) (hi : 0 < i ∧ i < 1000) :
    SpecAt Tryz.prog nrRNumber [.ptr i 0, .v (.int .i64 8)] H n (.v (.int .i64 (num (rawT s (preE s e) 8) : Nat))) ⟨(i, some (rdO (rawS s (preE s e) 8) (rawE s (preE s e) 8))) :: H.l, H.x⟩ n := by
  have := lift (n := n) (okT.spec trRNumber (args := [.ptr 1 0, .v (.int .i64 8)]) (H := ⟨[(1, some (rdO s e))], H.x⟩) (n := 2) (v := .v (.int .i64 (num (rawT s (preE s e) 8) : Nat))) (H' := ⟨[(1, some (rdO (rawS s (preE s e) 8) (rawE s (preE s e) 8)))], H.x⟩) (n' := 2) (by
    have hok := eight_ok (s := s) (e := e)
    have g8 : decide ((8 : Int) = 8) = true := rfl
    unfold mrRNumber
    simp -implicitDefEqProofs only [↓fnVC, initTm]
    by_cases h0 : e = 0
    · have a0 : decide (e = 0) = true := decide_eq_true h0
      by_cases h8 : 8 ≤ s.size
      · have g0 : decide ((s.size : Int) ≥ 8) = true := decide_eq_true (by omega)
        have hb := bts_getD (t := s) (j := 0) (by omega)
        by_cases h128 : 128 ≤ (nbs s).getD 0 0
        · have g1 : decide ((((nbs s).getD 0 0 : Nat) : Int) ≥ 128) = true := decide_eq_true (by omega)
          have hE : failE e 3 = preE s e := by unfold failE preE; rw [if_pos h0, if_pos ⟨h0, h8, h128⟩]
          simp -implicitDefEqProofs only [go_sem, g8, a0, rdO, g0, hb, g1]
          refine ⟨by omega, ?_⟩
          refine at_call trRFail (rfailSp (i := 1) (s := s) (e := e) (f := 3) (by rfl) (by decide)) ?_
          rw [hE]
          simp -implicitDefEqProofs only [go_sem]
          refine at_call trRRaw (rrawSp (i := 1) (k := 8) (s := s) (e := (preE s e)) (by rfl) (by decide) (by decide)) ?_
          generalize rawT s (preE s e) 8 = T at hok ⊢
          have hsz : T.size ≤ 8 := by rcases hok with h | h <;> omega
          simp -implicitDefEqProofs only [go_sem]
          refine loop_fam (fun (j : Nat) => j ≤ T.size) (fun j => ⟨[(5, .v (.string T)), (6, .v (.int .i64 (nvl ((nbs T).take j) : Nat))), (7, .v (.int .i64 j))], ⟨[(1, some (rdO (rawS s (preE s e) 8) (rawE s (preE s e) 8)))], H.x⟩, 2⟩) (fun j => T.size - j) 0 (Nat.zero_le _) ?_ ?_
          · refine sub_mk [] rfl rfl rfl ?_
            simp only [tmSub, hpSub, objSub, eqTm, eqHp, rn, lk, SV.ren, SV.renC, SV.renB, SV.renA, ren_ints, ren_strs, ren_pl, ren_svs, SV.v.injEq, Value.int.injEq, Body.ints.injEq, SV.ptr.injEq, SV.sl.injEq, List.map_cons, List.map_nil, forall_const, Nat.reduceLT, imp_self, true_and, and_true, and_self, ob_some, get_mk, lk_cons, ↓reduceIte, Nat.reduceEqDiff, Nat.reduceAdd, false_implies, implies_true, reduceCtorEq]
            exact ⟨⟨rfl, rfl⟩, rfl⟩
          · intro j hj
            simp -implicitDefEqProofs only [go_sem]
            refine condK_bb (fun c => ?_) (fun c => ?_)
            · have c1 : j < T.size := by have := of_decide_eq_true c; omega
              have hb := bts_getD c1
              have hlt := nbs_get_lt c1
              have hv := hok.lt c1
              have w1 := ishl_8 hv
              have w2 : IntKind.i64.wrap (((nbs T).getD j 0 : Nat) : Int) = (((nbs T).getD j 0 : Nat) : Int) := wrap_i64 (by omega) (by omega)
              have w3 := ior_byte hv hlt
              have w4 : IntKind.i64.wrap ((j : Int) + 1) = ((j + 1 : Nat) : Int) := by rw [wrap_i64 (by omega) (by omega)]; omega
              have hs := num_step c1
              simp -implicitDefEqProofs only [go_sem, c, hb, w1, w2, w3, w4]
              refine ⟨⟨by omega, by omega⟩, ?_⟩
              refine kLoop_mk (j + 1) (by omega) (by omega) ?_
              refine sub_mk [] rfl rfl rfl ?_
              simp only [tmSub, hpSub, objSub, eqTm, eqHp, rn, lk, SV.ren, SV.renC, SV.renB, SV.renA, ren_ints, ren_strs, ren_pl, ren_svs, SV.v.injEq, Value.int.injEq, Body.ints.injEq, SV.ptr.injEq, SV.sl.injEq, List.map_cons, List.map_nil, forall_const, Nat.reduceLT, imp_self, true_and, and_true, and_self, ob_some, get_mk, lk_cons, ↓reduceIte, Nat.reduceEqDiff, Nat.reduceAdd, false_implies, implies_true, reduceCtorEq, w4, hs]
              rfl
            · have c1 : j = T.size := by have := of_decide_eq_false c; omega
              subst c1
              have hn : nvl ((nbs T).take T.size) = num T := by unfold num; rw [List.take_of_length_le (by rw [nbs_len]; exact Nat.le_refl _)]
              simp -implicitDefEqProofs only [go_sem, c]
              rw [hn]
              refine sub_mk [] rfl rfl rfl ?_
              simp only [tmSub, hpSub, objSub, eqTm, eqHp, rn, lk, SV.ren, SV.renC, SV.renB, SV.renA, ren_ints, ren_strs, ren_pl, ren_svs, SV.v.injEq, Value.int.injEq, Body.ints.injEq, SV.ptr.injEq, SV.sl.injEq, List.map_cons, List.map_nil, forall_const, Nat.reduceLT, imp_self, true_and, and_true, and_self, ob_some, get_mk, lk_cons, ↓reduceIte, Nat.reduceEqDiff, Nat.reduceAdd, false_implies, implies_true, reduceCtorEq]
              rfl
        · have g1 : decide ((((nbs s).getD 0 0 : Nat) : Int) ≥ 128) = false := decide_eq_false (by omega)
          have hE : preE s e = e := by unfold preE; rw [if_neg (fun h => h128 h.2.2)]
          rw [hE] at hok ⊢
          simp -implicitDefEqProofs only [go_sem, g8, a0, rdO, g0, hb, g1]
          refine ⟨by omega, ?_⟩
          refine at_call trRRaw (rrawSp (i := 1) (k := 8) (s := s) (e := e) (by rfl) (by decide) (by decide)) ?_
          generalize rawT s e 8 = T at hok ⊢
          have hsz : T.size ≤ 8 := by rcases hok with h | h <;> omega
          simp -implicitDefEqProofs only [go_sem]
          refine loop_fam (fun (j : Nat) => j ≤ T.size) (fun j => ⟨[(5, .v (.string T)), (6, .v (.int .i64 (nvl ((nbs T).take j) : Nat))), (7, .v (.int .i64 j))], ⟨[(1, some (rdO (rawS s e 8) (rawE s e 8)))], H.x⟩, 2⟩) (fun j => T.size - j) 0 (Nat.zero_le _) ?_ ?_
          · refine sub_mk [] rfl rfl rfl ?_
            simp only [tmSub, hpSub, objSub, eqTm, eqHp, rn, lk, SV.ren, SV.renC, SV.renB, SV.renA, ren_ints, ren_strs, ren_pl, ren_svs, SV.v.injEq, Value.int.injEq, Body.ints.injEq, SV.ptr.injEq, SV.sl.injEq, List.map_cons, List.map_nil, forall_const, Nat.reduceLT, imp_self, true_and, and_true, and_self, ob_some, get_mk, lk_cons, ↓reduceIte, Nat.reduceEqDiff, Nat.reduceAdd, false_implies, implies_true, reduceCtorEq]
            exact ⟨⟨rfl, rfl⟩, rfl⟩
          · intro j hj
            simp -implicitDefEqProofs only [go_sem]
            refine condK_bb (fun c => ?_) (fun c => ?_)
            · have c1 : j < T.size := by have := of_decide_eq_true c; omega
              have hb := bts_getD c1
              have hlt := nbs_get_lt c1
              have hv := hok.lt c1
              have w1 := ishl_8 hv
              have w2 : IntKind.i64.wrap (((nbs T).getD j 0 : Nat) : Int) = (((nbs T).getD j 0 : Nat) : Int) := wrap_i64 (by omega) (by omega)
              have w3 := ior_byte hv hlt
              have w4 : IntKind.i64.wrap ((j : Int) + 1) = ((j + 1 : Nat) : Int) := by rw [wrap_i64 (by omega) (by omega)]; omega
              have hs := num_step c1
              simp -implicitDefEqProofs only [go_sem, c, hb, w1, w2, w3, w4]
              refine ⟨⟨by omega, by omega⟩, ?_⟩
              refine kLoop_mk (j + 1) (by omega) (by omega) ?_
              refine sub_mk [] rfl rfl rfl ?_
              simp only [tmSub, hpSub, objSub, eqTm, eqHp, rn, lk, SV.ren, SV.renC, SV.renB, SV.renA, ren_ints, ren_strs, ren_pl, ren_svs, SV.v.injEq, Value.int.injEq, Body.ints.injEq, SV.ptr.injEq, SV.sl.injEq, List.map_cons, List.map_nil, forall_const, Nat.reduceLT, imp_self, true_and, and_true, and_self, ob_some, get_mk, lk_cons, ↓reduceIte, Nat.reduceEqDiff, Nat.reduceAdd, false_implies, implies_true, reduceCtorEq, w4, hs]
              rfl
            · have c1 : j = T.size := by have := of_decide_eq_false c; omega
              subst c1
              have hn : nvl ((nbs T).take T.size) = num T := by unfold num; rw [List.take_of_length_le (by rw [nbs_len]; exact Nat.le_refl _)]
              simp -implicitDefEqProofs only [go_sem, c]
              rw [hn]
              refine sub_mk [] rfl rfl rfl ?_
              simp only [tmSub, hpSub, objSub, eqTm, eqHp, rn, lk, SV.ren, SV.renC, SV.renB, SV.renA, ren_ints, ren_strs, ren_pl, ren_svs, SV.v.injEq, Value.int.injEq, Body.ints.injEq, SV.ptr.injEq, SV.sl.injEq, List.map_cons, List.map_nil, forall_const, Nat.reduceLT, imp_self, true_and, and_true, and_self, ob_some, get_mk, lk_cons, ↓reduceIte, Nat.reduceEqDiff, Nat.reduceAdd, false_implies, implies_true, reduceCtorEq]
              rfl
      · have g0 : decide ((s.size : Int) ≥ 8) = false := decide_eq_false (by omega)
        have hE : preE s e = e := by unfold preE; rw [if_neg (fun h => h8 h.2.1)]
        rw [hE] at hok ⊢
        simp -implicitDefEqProofs only [go_sem, g8, a0, rdO, g0]
        refine at_call trRRaw (rrawSp (i := 1) (k := 8) (s := s) (e := e) (by rfl) (by decide) (by decide)) ?_
        generalize rawT s e 8 = T at hok ⊢
        have hsz : T.size ≤ 8 := by rcases hok with h | h <;> omega
        simp -implicitDefEqProofs only [go_sem]
        refine loop_fam (fun (j : Nat) => j ≤ T.size) (fun j => ⟨[(5, .v (.string T)), (6, .v (.int .i64 (nvl ((nbs T).take j) : Nat))), (7, .v (.int .i64 j))], ⟨[(1, some (rdO (rawS s e 8) (rawE s e 8)))], H.x⟩, 2⟩) (fun j => T.size - j) 0 (Nat.zero_le _) ?_ ?_
        · refine sub_mk [] rfl rfl rfl ?_
          simp only [tmSub, hpSub, objSub, eqTm, eqHp, rn, lk, SV.ren, SV.renC, SV.renB, SV.renA, ren_ints, ren_strs, ren_pl, ren_svs, SV.v.injEq, Value.int.injEq, Body.ints.injEq, SV.ptr.injEq, SV.sl.injEq, List.map_cons, List.map_nil, forall_const, Nat.reduceLT, imp_self, true_and, and_true, and_self, ob_some, get_mk, lk_cons, ↓reduceIte, Nat.reduceEqDiff, Nat.reduceAdd, false_implies, implies_true, reduceCtorEq]
          exact ⟨⟨rfl, rfl⟩, rfl⟩
        · intro j hj
          simp -implicitDefEqProofs only [go_sem]
          refine condK_bb (fun c => ?_) (fun c => ?_)
          · have c1 : j < T.size := by have := of_decide_eq_true c; omega
            have hb := bts_getD c1
            have hlt := nbs_get_lt c1
            have hv := hok.lt c1
            have w1 := ishl_8 hv
            have w2 : IntKind.i64.wrap (((nbs T).getD j 0 : Nat) : Int) = (((nbs T).getD j 0 : Nat) : Int) := wrap_i64 (by omega) (by omega)
            have w3 := ior_byte hv hlt
            have w4 : IntKind.i64.wrap ((j : Int) + 1) = ((j + 1 : Nat) : Int) := by rw [wrap_i64 (by omega) (by omega)]; omega
            have hs := num_step c1
            simp -implicitDefEqProofs only [go_sem, c, hb, w1, w2, w3, w4]
            refine ⟨⟨by omega, by omega⟩, ?_⟩
            refine kLoop_mk (j + 1) (by omega) (by omega) ?_
            refine sub_mk [] rfl rfl rfl ?_
            simp only [tmSub, hpSub, objSub, eqTm, eqHp, rn, lk, SV.ren, SV.renC, SV.renB, SV.renA, ren_ints, ren_strs, ren_pl, ren_svs, SV.v.injEq, Value.int.injEq, Body.ints.injEq, SV.ptr.injEq, SV.sl.injEq, List.map_cons, List.map_nil, forall_const, Nat.reduceLT, imp_self, true_and, and_true, and_self, ob_some, get_mk, lk_cons, ↓reduceIte, Nat.reduceEqDiff, Nat.reduceAdd, false_implies, implies_true, reduceCtorEq, w4, hs]
            rfl
          · have c1 : j = T.size := by have := of_decide_eq_false c; omega
            subst c1
            have hn : nvl ((nbs T).take T.size) = num T := by unfold num; rw [List.take_of_length_le (by rw [nbs_len]; exact Nat.le_refl _)]
            simp -implicitDefEqProofs only [go_sem, c]
            rw [hn]
            refine sub_mk [] rfl rfl rfl ?_
            simp only [tmSub, hpSub, objSub, eqTm, eqHp, rn, lk, SV.ren, SV.renC, SV.renB, SV.renA, ren_ints, ren_strs, ren_pl, ren_svs, SV.v.injEq, Value.int.injEq, Body.ints.injEq, SV.ptr.injEq, SV.sl.injEq, List.map_cons, List.map_nil, forall_const, Nat.reduceLT, imp_self, true_and, and_true, and_self, ob_some, get_mk, lk_cons, ↓reduceIte, Nat.reduceEqDiff, Nat.reduceAdd, false_implies, implies_true, reduceCtorEq]
            rfl
    · have a0 : decide (e = 0) = false := decide_eq_false h0
      have hE : preE s e = e := by unfold preE; rw [if_neg (fun h => h0 h.1)]
      rw [hE] at hok ⊢
      simp -implicitDefEqProofs only [go_sem, g8, a0, rdO]
      refine at_call trRRaw (rrawSp (i := 1) (k := 8) (s := s) (e := e) (by rfl) (by decide) (by decide)) ?_
      generalize rawT s e 8 = T at hok ⊢
      have hsz : T.size ≤ 8 := by rcases hok with h | h <;> omega
      simp -implicitDefEqProofs only [go_sem]
      refine loop_fam (fun (j : Nat) => j ≤ T.size) (fun j => ⟨[(5, .v (.string T)), (6, .v (.int .i64 (nvl ((nbs T).take j) : Nat))), (7, .v (.int .i64 j))], ⟨[(1, some (rdO (rawS s e 8) (rawE s e 8)))], H.x⟩, 2⟩) (fun j => T.size - j) 0 (Nat.zero_le _) ?_ ?_
      · refine sub_mk [] rfl rfl rfl ?_
        simp only [tmSub, hpSub, objSub, eqTm, eqHp, rn, lk, SV.ren, SV.renC, SV.renB, SV.renA, ren_ints, ren_strs, ren_pl, ren_svs, SV.v.injEq, Value.int.injEq, Body.ints.injEq, SV.ptr.injEq, SV.sl.injEq, List.map_cons, List.map_nil, forall_const, Nat.reduceLT, imp_self, true_and, and_true, and_self, ob_some, get_mk, lk_cons, ↓reduceIte, Nat.reduceEqDiff, Nat.reduceAdd, false_implies, implies_true, reduceCtorEq]
        exact ⟨⟨rfl, rfl⟩, rfl⟩
      · intro j hj
        simp -implicitDefEqProofs only [go_sem]
        refine condK_bb (fun c => ?_) (fun c => ?_)
        · have c1 : j < T.size := by have := of_decide_eq_true c; omega
          have hb := bts_getD c1
          have hlt := nbs_get_lt c1
          have hv := hok.lt c1
          have w1 := ishl_8 hv
          have w2 : IntKind.i64.wrap (((nbs T).getD j 0 : Nat) : Int) = (((nbs T).getD j 0 : Nat) : Int) := wrap_i64 (by omega) (by omega)
          have w3 := ior_byte hv hlt
          have w4 : IntKind.i64.wrap ((j : Int) + 1) = ((j + 1 : Nat) : Int) := by rw [wrap_i64 (by omega) (by omega)]; omega
          have hs := num_step c1
          simp -implicitDefEqProofs only [go_sem, c, hb, w1, w2, w3, w4]
          refine ⟨⟨by omega, by omega⟩, ?_⟩
          refine kLoop_mk (j + 1) (by omega) (by omega) ?_
          refine sub_mk [] rfl rfl rfl ?_
          simp only [tmSub, hpSub, objSub, eqTm, eqHp, rn, lk, SV.ren, SV.renC, SV.renB, SV.renA, ren_ints, ren_strs, ren_pl, ren_svs, SV.v.injEq, Value.int.injEq, Body.ints.injEq, SV.ptr.injEq, SV.sl.injEq, List.map_cons, List.map_nil, forall_const, Nat.reduceLT, imp_self, true_and, and_true, and_self, ob_some, get_mk, lk_cons, ↓reduceIte, Nat.reduceEqDiff, Nat.reduceAdd, false_implies, implies_true, reduceCtorEq, w4, hs]
          rfl
        · have c1 : j = T.size := by have := of_decide_eq_false c; omega
          subst c1
          have hn : nvl ((nbs T).take T.size) = num T := by unfold num; rw [List.take_of_length_le (by rw [nbs_len]; exact Nat.le_refl _)]
          simp -implicitDefEqProofs only [go_sem, c]
          rw [hn]
          refine sub_mk [] rfl rfl rfl ?_
          simp only [tmSub, hpSub, objSub, eqTm, eqHp, rn, lk, SV.ren, SV.renC, SV.renB, SV.renA, ren_ints, ren_strs, ren_pl, ren_svs, SV.v.injEq, Value.int.injEq, Body.ints.injEq, SV.ptr.injEq, SV.sl.injEq, List.map_cons, List.map_nil, forall_const, Nat.reduceLT, imp_self, true_and, and_true, and_self, ob_some, get_mk, lk_cons, ↓reduceIte, Nat.reduceEqDiff, Nat.reduceAdd, false_implies, implies_true, reduceCtorEq]
          rfl)) [(1, i)] rfl rfl rfl (by omega) rfl rfl
    ⟨sub_wr rfl hi.1 hi.2 hg rfl, trivial⟩ (by simp [apartB, apart1, rn, lk]) (by simp [wrNZ, rn, lk]; omega) (by omega)
  exact this
variable {H : Hp} {n : Nat} {x : Nat → Option SO}
variable {H : Hp} {n : Nat} {x : Nat → Option SO}
variable {H : Hp} {n : Nat} {x : Nat → Option SO}
variable {H : Hp} {n : Nat} {x : Nat → Option SO}
theorem rnumW {s : ByteArray} {e : Int} {k : Nat} (hk : k ≤ 7) : fnVC CT mrRNumber [.ptr 1 0, .v (.int .i64 k)] ⟨[(1, some (rdO s e))], x⟩ 2 fun v H' n' => Sub 2 ⟨[(0, .v (.int .i64 (num (rawT s e k) : Nat)))], ⟨[(1, some (rdO (rawS s e k) (rawE s e k)))], x⟩, 2⟩ ⟨[(0, v)], H', n'⟩ := by
  unfold mrRNumber
  have hok : numOK (rawT s e k) := .inl (by have := rawT_size (s := s) (e := e) (k := k); omega)
  have g8 : decide ((k : Int) = 8) = false := decide_eq_false (by omega)
  simp -implicitDefEqProofs only [↓fnVC, initTm]
  simp -implicitDefEqProofs only [go_sem, g8]
  refine at_call trRRaw (rrawSp (i := 1) (k := k) (s := s) (e := e) (by rfl) (by decide) (by omega)) ?_
  generalize rawT s e k = T at hok ⊢
  have hsz : T.size ≤ 8 := by rcases hok with h | h <;> omega
  simp -implicitDefEqProofs only [go_sem]
  refine loop_fam (fun (j : Nat) => j ≤ T.size) (fun j => ⟨[(5, .v (.string T)), (6, .v (.int .i64 (nvl ((nbs T).take j) : Nat))), (7, .v (.int .i64 j))], ⟨[(1, some (rdO (rawS s e k) (rawE s e k)))], x⟩, 2⟩) (fun j => T.size - j) 0 (Nat.zero_le _) ?_ ?_
  · refine sub_mk [] rfl rfl rfl ?_
    simp only [tmSub, hpSub, objSub, eqTm, eqHp, rn, lk, SV.ren, SV.renC, SV.renB, SV.renA, ren_ints, ren_strs, ren_pl, ren_svs, SV.v.injEq, Value.int.injEq, Body.ints.injEq, SV.ptr.injEq, SV.sl.injEq, List.map_cons, List.map_nil, forall_const, Nat.reduceLT, imp_self, true_and, and_true, and_self, ob_some, get_mk, lk_cons, ↓reduceIte, Nat.reduceEqDiff, Nat.reduceAdd, false_implies, implies_true, reduceCtorEq]
    exact ⟨⟨rfl, rfl⟩, rfl⟩
  · intro j hj
    simp -implicitDefEqProofs only [go_sem]
    refine condK_bb (fun c => ?_) (fun c => ?_)
    · have c1 : j < T.size := by have := of_decide_eq_true c; omega
      have hb := bts_getD c1
      have hlt := nbs_get_lt c1
      have hv := hok.lt c1
      have w1 := ishl_8 hv
      have w2 : IntKind.i64.wrap (((nbs T).getD j 0 : Nat) : Int) = (((nbs T).getD j 0 : Nat) : Int) := wrap_i64 (by omega) (by omega)
      have w3 := ior_byte hv hlt
      have w4 : IntKind.i64.wrap ((j : Int) + 1) = ((j + 1 : Nat) : Int) := by rw [wrap_i64 (by omega) (by omega)]; omega
      have hs := num_step c1
      simp -implicitDefEqProofs only [go_sem, c, hb, w1, w2, w3, w4]
      refine ⟨⟨by omega, by omega⟩, ?_⟩
      refine kLoop_mk (j + 1) (by omega) (by omega) ?_
      refine sub_mk [] rfl rfl rfl ?_
      simp only [tmSub, hpSub, objSub, eqTm, eqHp, rn, lk, SV.ren, SV.renC, SV.renB, SV.renA, ren_ints, ren_strs, ren_pl, ren_svs, SV.v.injEq, Value.int.injEq, Body.ints.injEq, SV.ptr.injEq, SV.sl.injEq, List.map_cons, List.map_nil, forall_const, Nat.reduceLT, imp_self, true_and, and_true, and_self, ob_some, get_mk, lk_cons, ↓reduceIte, Nat.reduceEqDiff, Nat.reduceAdd, false_implies, implies_true, reduceCtorEq, w4, hs]
      rfl
    · have c1 : j = T.size := by have := of_decide_eq_false c; omega
      subst c1
      have hn : nvl ((nbs T).take T.size) = num T := by unfold num; rw [List.take_of_length_le (by rw [nbs_len]; exact Nat.le_refl _)]
      simp -implicitDefEqProofs only [go_sem, c]
      rw [hn]
      refine sub_mk [] rfl rfl rfl ?_
      simp only [tmSub, hpSub, objSub, eqTm, eqHp, rn, lk, SV.ren, SV.renC, SV.renB, SV.renA, ren_ints, ren_strs, ren_pl, ren_svs, SV.v.injEq, Value.int.injEq, Body.ints.injEq, SV.ptr.injEq, SV.sl.injEq, List.map_cons, List.map_nil, forall_const, Nat.reduceLT, imp_self, true_and, and_true, and_self, ob_some, get_mk, lk_cons, ↓reduceIte, Nat.reduceEqDiff, Nat.reduceAdd, false_implies, implies_true, reduceCtorEq]
      rfl
theorem rnumSp {s : ByteArray} {e : Int} {k i : Nat} (hg : H.get i = some (rdO s e)) (hi : 0 < i ∧ i < 1000) (hk : k ≤ 7) :
    SpecAt Tryz.prog nrRNumber [.ptr i 0, .v (.int .i64 k)] H n (.v (.int .i64 (num (rawT s e k) : Nat))) ⟨(i, some (rdO (rawS s e k) (rawE s e k))) :: H.l, H.x⟩ n := by
  have := lift (n := n) (okT.spec trRNumber (rnumW (x := H.x) (s := s) (e := e) hk)) [(1, i)] rfl rfl rfl (by omega) rfl rfl
    ⟨sub_wr rfl hi.1 hi.2 hg rfl, trivial⟩ (by simp [apartB, apart1, rn, lk]) (by simp [wrNZ, rn, lk]; omega) (by omega)
  exact this
theorem rreadS0 {s : ByteArray} (hn : n + 1 ≤ 1000) : SpecAt Tryz.prog nrRead [.v (.string s)] H n (.ptr n 0) ⟨(n, some (rdO s 0)) :: H.l, H.x⟩ (n + 1) := by
  have := lift (n := n) (okT.spec trRead (args := [.v (.string s)]) (H := ⟨[], H.x⟩) (n := 1) (v := .ptr 1 0) (H' := ⟨[(1, some (rdO s 0))], H.x⟩) (n' := 2) (by
    unfold mrRead
    simp -implicitDefEqProofs only [↓fnVC, initTm]
    simp -implicitDefEqProofs only [go_sem]
    refine sub_mk [] rfl rfl rfl ?_
    simp only [tmSub, hpSub, objSub, eqTm, eqHp, rn, lk, SV.ren, SV.renC, SV.renB, SV.renA, ren_ints, ren_strs, ren_pl, ren_svs, SV.v.injEq, Value.int.injEq, Body.ints.injEq, SV.ptr.injEq, SV.sl.injEq, List.map_cons, List.map_nil, forall_const, Nat.reduceLT, imp_self, true_and, and_true, and_self, ob_some, get_mk, lk_cons, ↓reduceIte, Nat.reduceEqDiff, Nat.reduceAdd, false_implies, implies_true, reduceCtorEq, rdO]
    rfl)) [] rfl rfl rfl (by omega) rfl rfl trivial rfl rfl (by omega)
  exact this
variable {H : Hp} {n : Nat} {x : Nat → Option SO}
end
section
/- Packing: the document's writer, numbers and texts. -/
set_option linter.unusedVariables false
set_option linter.unusedSimpArgs false
set_option maxRecDepth 100000
open Go.Proofs
variable {H : Hp} {n : Nat} {x : Nat → Option SO}
end
section
/- A device, at this program. -/
set_option linter.unusedVariables false
set_option linter.unusedSimpArgs false
set_option maxRecDepth 100000
open Go.Proofs
variable {P : Program} {C : Tab} {H : Hp} {n : Nat} {x : Nat → Option SO}
theorem flat_len {α : Type} {z : Nat} : ∀ {l : List (List α)}, (∀ s ∈ l, s.length = z) → l.flatten.length = l.length * z
  | [], _ => by simp
  | s :: l, h => by
    rw [List.flatten_cons, List.length_append, h s (List.mem_cons_self ..), flat_len (l := l) (fun t ht => h t (List.mem_cons_of_mem _ ht)), List.length_cons, Nat.succ_mul, Nat.add_comm]
theorem flat_drop {α : Type} {z : Nat} : ∀ {l : List (List α)} (j : Nat), (∀ s ∈ l, s.length = z) → l.flatten.drop (j * z) = (l.drop j).flatten
  | [], j, _ => by simp
  | s :: l, 0, h => by simp
  | s :: l, j + 1, h => by
    rw [List.flatten_cons, show (j + 1) * z = s.length + j * z by rw [h s (List.mem_cons_self ..), Nat.succ_mul, Nat.add_comm], ← List.drop_drop, List.drop_left, List.drop_succ_cons]
    exact flat_drop j (fun t ht => h t (List.mem_cons_of_mem _ ht))
theorem flat_take {α : Type} {z : Nat} {l : List (List α)} {j : Nat} (h : ∀ s ∈ l, s.length = z) (hj : j < l.length) : (l.flatten.drop (j * z)).take z = l.getD j [] := by
  rw [flat_drop j h, List.drop_eq_getElem_cons hj, List.flatten_cons, List.take_append_of_le_length (by rw [h _ (List.getElem_mem hj)]; exact Nat.le_refl _), List.take_of_length_le (by rw [h _ (List.getElem_mem hj)]; exact Nat.le_refl _), List.getD_eq_getElem?_getD, List.getElem?_eq_getElem hj]; rfl
theorem flat_firsts {α : Type} {z : Nat} {l : List (List α)} {j : Nat} (h : ∀ s ∈ l, s.length = z) (hj : j ≤ l.length) : l.flatten.take (j * z) = (l.take j).flatten := by
  have e : l.flatten = (l.take j).flatten ++ (l.drop j).flatten := by rw [← List.flatten_append, List.take_append_drop]
  have hlen : (l.take j).flatten.length = j * z := by
    rw [flat_len (fun s hs => h s (List.mem_of_mem_take hs)), List.length_take, Nat.min_eq_left hj]
  rw [e, List.take_append_of_le_length (by omega), List.take_of_length_le (by omega)]
theorem flat_set {α : Type} {z : Nat} {l : List (List α)} {j : Nat} {s : List α} (h : ∀ s ∈ l, s.length = z) (hj : j < l.length) (hs : s.length = z) : splice l.flatten (j * z) s = (l.set j s).flatten := by
  unfold splice
  rw [flat_firsts h (by omega), hs, show j * z + z = (j + 1) * z by rw [Nat.succ_mul], flat_drop (j + 1) h, List.set_eq_take_append_cons_drop, if_pos hj, List.flatten_append, List.flatten_cons, List.append_assoc]
theorem set_all {α : Type} {z : Nat} {l : List (List α)} {j : Nat} {s : List α} (h : ∀ s ∈ l, s.length = z) (hs : s.length = z) : ∀ t ∈ l.set j s, t.length = z := by
  intro t ht
  rcases List.mem_or_eq_of_mem_set ht with h1 | h1
  · exact h t h1
  · rw [h1]; exact hs
theorem getD_len {α : Type} {z : Nat} {l : List (List α)} {j : Nat} (h : ∀ s ∈ l, s.length = z) (hj : j < l.length) : (l.getD j []).length = z := by
  rw [List.getD_eq_getElem?_getD, List.getElem?_eq_getElem hj]; exact h _ (List.getElem_mem hj)
def pad64 (ys : List Int) : List Int := ys ++ List.replicate (64 - ys.length) 0
theorem pad64_len {ys : List Int} (h : ys.length ≤ 64) : (pad64 ys).length = 64 := by simp [pad64]; omega
structure Fd where
  seen : List (List Int)
  safe : List (List Int)
  pend : List (Nat × List Int)
  st : Int
  fa : Int
  off : Bool
structure Fd.ok (d : Fd) : Prop where
  seen : ∀ s ∈ d.seen, s.length = 64
  safe : ∀ s ∈ d.safe, s.length = 64
  len : d.safe.length = d.seen.length
  most : d.seen.length ≤ 4096
  pend : ∀ w ∈ d.pend, w.1 < d.seen.length ∧ w.2.length = 64
  few : d.pend.length ≤ 1000000000
  st0 : 0 ≤ d.st
  st1 : d.st ≤ 1000000000000
  fa0 : 0 ≤ d.fa
  fa1 : d.fa ≤ 9223372036854775807
def wcell (w : Nat × List Int) : List Value := .int .i64 w.1 :: w.2.map (Value.int .u8)
def prow (ws : List (Nat × List Int)) : List Value := (ws.map wcell).flatten
def devB (d : Fd) (a b c : Nat) : Body := .sv [.sl a 0 d.seen.length 64, .sl b 0 d.seen.length 64, .sl c 0 d.pend.length 65, .v (.int .i64 d.st), .v (.int .i64 d.fa), .v (.bool d.off)]
def secB (l : List (List Int)) : Body := .ints .u8 l.flatten
theorem wcell_len {w : Nat × List Int} (h : w.2.length = 64) : (wcell w).length = 65 := by simp [wcell, h]
theorem prow_len {ws : List (Nat × List Int)} (h : ∀ w ∈ ws, w.2.length = 64) : (prow ws).length = ws.length * 65 := by
  unfold prow
  rw [flat_len (z := 65), List.length_map]
  intro s hs
  rw [List.mem_map] at hs
  obtain ⟨w, hw, rfl⟩ := hs
  exact wcell_len (h w hw)
theorem prow_at {ws : List (Nat × List Int)} {j : Nat} (h : ∀ w ∈ ws, w.2.length = 64) (hj : j < ws.length) : ((prow ws).drop (j * 65)).take 65 = wcell (ws.getD j (0, [])) := by
  unfold prow
  rw [flat_take (fun s hs => by
    rw [List.mem_map] at hs
    obtain ⟨w, hw, rfl⟩ := hs
    exact wcell_len (h w hw)) (by simpa using hj)]
  rw [List.getD_eq_getElem?_getD, List.getElem?_map, List.getD_eq_getElem?_getD, List.getElem?_eq_getElem hj]; rfl
theorem prow_app (l m : List (Nat × List Int)) : prow (l ++ m) = prow l ++ prow m := by simp [prow]
theorem ones_wcell (w : Nat × List Int) : (wcell w).all (·.oneCell') = true := by
  simp [wcell, Value.oneCell']
def stepD (d : Fd) : Fd := if d.fa = 1 then { d with fa := 0, off := true } else { d with fa := if 0 < d.fa then d.fa - 1 else d.fa, st := d.st + 1 }
variable {H : Hp} {n : Nat} {x : Nat → Option SO}
abbrev C3 : Tab := CS Tryz.prog
theorem mix3 : Tryz.prog.follows .mixedOrders = true := Checked.mixed Tryz.checked
def hp3 (d : Fd) (x : Nat → Option SO) : Hp := ⟨[(1, some ⟨true, devB d 2 3 4⟩), (2, some ⟨true, secB d.seen⟩), (3, some ⟨true, secB d.safe⟩), (4, some ⟨true, .pl (prow d.pend)⟩)], x⟩
theorem pls_new {k : Nat} : plsOf (splice zws 0 [.v (.int .i64 (k : Int))]) = some (wcell (k, zi 64)) := rfl
theorem new_wr {k : Nat} : splice zw 0 (wcell (k, zi 64)) = wcell (k, zi 64) := rfl
theorem wz_len {k : Nat} : (wcell (k, zi 64)).length = 65 := rfl
theorem wr_copy {k : Nat} {s : ByteArray} (hs : s.size ≤ 64) : splice (wcell (k, zi 64)) 1 (((bts s).take (min s.size 64)).map (Value.int .u8)) = wcell (k, pad64 (bts s)) := by
  have hl := bts_length s
  rw [List.take_of_length_le (by omega)]
  unfold wcell
  rw [splice_succ, splice_zero]
  simp only [zi, pad64, List.length_map, hl, ← List.map_drop, List.drop_replicate, List.map_append]
theorem wcell_tl {w : Nat × List Int} : (wcell w).drop 1 = w.2.map (Value.int .u8) := rfl
theorem wF11 {d : Fd} {k : Nat} {s : ByteArray} (hd : d.ok) (hk : k < d.seen.length) (hs : s.size ≤ 64) (hoff : d.off = false) (hfa : d.fa ≠ 1) :
    fnVC C3 mFWrite [.ptr 1 0, .v (.int .i64 k), .v (.string s)] (hp3 d x) 5 fun v H' n' => Sub 5 ⟨[(0, .v (.int .i64 0))],
      ⟨[(1, some ⟨true, devB { stepD d with seen := d.seen.set k (pad64 (bts s)), pend := d.pend ++ [(k, pad64 (bts s))] } 2 3 5⟩), (2, some ⟨true, secB (d.seen.set k (pad64 (bts s)))⟩), (3, some ⟨true, secB d.safe⟩), (4, none), (5, some ⟨true, .pl (prow (d.pend ++ [(k, pad64 (bts s))]))⟩)], x⟩, 6⟩ ⟨[(0, v)], H', n'⟩ := by
  obtain ⟨h1, h2, h3, h4, h5, h6, h7, h8, h9, h10⟩ := hd
  have e1 : decide ((k : Int) < 0) = false := decide_eq_false (by omega)
  have e2 : decide ((k : Int) ≥ (d.seen.length : Int)) = false := decide_eq_false (by omega)
  have e3 : decide ((s.size : Int) > 64) = false := decide_eq_false (by omega)
  have hl := bts_length s
  have hp := pad64_len (ys := bts s) (by omega)
  have r1 := wr_copy (k := k) hs
  have r2 : (wcell (k, pad64 (bts s))).length = 65 := wcell_len hp
  have r3 : List.take 65 (wcell (k, pad64 (bts s))) = wcell (k, pad64 (bts s)) := List.take_of_length_le (by omega)
  have r4 := prow_len (ws := d.pend) (fun w hw => (h5 w hw).2)
  have r5 : List.take (d.pend.length * 65) (prow d.pend) = prow d.pend := List.take_of_length_le (by omega)
  have r6 : List.take 64 ((pad64 (bts s)).map (Value.int .u8)) = (pad64 (bts s)).map (Value.int .u8) := List.take_of_length_le (by simp; omega)
  have r7 := flat_set (s := pad64 (bts s)) h1 hk hp
  have r8 : ∀ w, prow [w] = wcell w := fun w => by simp [prow]
  have r9 := flat_len h1
  unfold hp3 devB secB mFWrite
  rw [hoff]
  simp -implicitDefEqProofs only [↓fnVC, initTm]
  simp -implicitDefEqProofs only [go_sem]
  refine in_call mix3 tFat ?_
  unfold mFat
  simp -implicitDefEqProofs only [↓fnVC, initTm]
  simp -implicitDefEqProofs only [go_sem, e1]
  refine in_call mix3 tFSectors ?_
  unfold mFSectors
  simp -implicitDefEqProofs only [↓fnVC, initTm]
  simp -implicitDefEqProofs only [go_sem, e1, e2, e3]
  refine in_call mix3 tFstep ?_
  unfold mFstep
  simp -implicitDefEqProofs only [↓fnVC, initTm]
  simp -implicitDefEqProofs only [go_sem]
  refine condK_bb (fun e4 => ?_) (fun e4 => ?_)
  · simp -implicitDefEqProofs only [go_sem, e4]
    have e5 : decide (IntKind.i64.wrap (d.fa - 1) = 0) = false := decide_eq_false (by rw [wrap_i64 (by omega) (by omega)]; omega)
    have q1 : (stepD d).st = IntKind.i64.wrap (d.st + 1) := by rw [wrap_i64 (by omega) (by omega)]; simp [stepD, hfa]
    have q2 : (stepD d).fa = IntKind.i64.wrap (d.fa - 1) := by rw [wrap_i64 (by omega) (by omega)]; simp only [decide_eq_true_eq] at e4; simp [stepD, hfa]; intro; omega
    have q3 : (stepD d).off = false := by simp [stepD, hfa, hoff]
    simp -implicitDefEqProofs only [go_sem, e5, pls_new, new_wr, wz_len, ones_wcell, r1, r2, r3, r4, r5, r6, r7, wcell_tl, List.length_map, hp]
    refine ⟨by omega, by rw [List.length_take]; omega, by omega, by omega, by omega, by omega, sub_mk [(5, 7)] rfl rfl rfl ?_⟩
    simp only [tmSub, hpSub, objSub, eqTm, eqHp, rn, lk, SV.ren, SV.renC, SV.renB, SV.renA, ren_ints, ren_strs, ren_pl, ren_svs, SV.v.injEq, Value.int.injEq, Body.ints.injEq, SV.ptr.injEq, SV.sl.injEq, Value.string.injEq, Value.bool.injEq, List.map_cons, List.map_nil, forall_const, Nat.reduceLT, Nat.lt_add_one, imp_self, true_and, and_true, and_self, ob_some, get_mk, lk_cons, ↓reduceIte, Nat.reduceEqDiff, ne_eq, not_true_eq_false, not_false_eq_true, Nat.one_ne_zero, Nat.zero_ne_one, Nat.succ_ne_self, Nat.reduceAdd, Bool.false_eq_true, false_implies, implies_true, reduceCtorEq, q1, q2, q3, List.length_set, List.length_append, List.length_cons, List.length_nil, prow_app, r8]
  · simp -implicitDefEqProofs only [go_sem, e4, pls_new, new_wr, wz_len, ones_wcell, r1, r2, r3, r4, r5, r6, r7, wcell_tl, List.length_map, hp]
    have q1 : (stepD d).st = IntKind.i64.wrap (d.st + 1) := by rw [wrap_i64 (by omega) (by omega)]; simp [stepD, hfa]
    have q2 : (stepD d).fa = d.fa := by simp only [decide_eq_false_iff_not] at e4; simp [stepD, hfa]; intro; omega
    have q3 : (stepD d).off = false := by simp [stepD, hfa, hoff]
    refine ⟨by omega, by rw [List.length_take]; omega, by omega, by omega, by omega, by omega, sub_mk [(5, 7)] rfl rfl rfl ?_⟩
    simp only [tmSub, hpSub, objSub, eqTm, eqHp, rn, lk, SV.ren, SV.renC, SV.renB, SV.renA, ren_ints, ren_strs, ren_pl, ren_svs, SV.v.injEq, Value.int.injEq, Body.ints.injEq, SV.ptr.injEq, SV.sl.injEq, Value.string.injEq, Value.bool.injEq, List.map_cons, List.map_nil, forall_const, Nat.reduceLT, Nat.lt_add_one, imp_self, true_and, and_true, and_self, ob_some, get_mk, lk_cons, ↓reduceIte, Nat.reduceEqDiff, ne_eq, not_true_eq_false, not_false_eq_true, Nat.one_ne_zero, Nat.zero_ne_one, Nat.succ_ne_self, Nat.reduceAdd, Bool.false_eq_true, false_implies, implies_true, reduceCtorEq, q1, q2, q3, List.length_set, List.length_append, List.length_cons, List.length_nil, prow_app, r8]
def hp3r (d : Fd) (x : Nat → Option SO) : Hp := ⟨[(1, some ⟨true, devB d 2 3 4⟩), (2, some ⟨false, secB d.seen⟩), (3, some ⟨false, secB d.safe⟩), (4, some ⟨false, .pl (prow d.pend)⟩)], x⟩
def wrNo (d : Fd) (k : Int) (s : ByteArray) : Option (Int × Fd) :=
  if d.off then some (7, d) else if k < 0 ∨ (d.seen.length : Int) ≤ k then some (1, d) else if 64 < s.size then some (1, d) else if d.fa = 1 then some (7, stepD d) else none
theorem wF11n {d d' : Fd} {k e : Int} {s : ByteArray} (hd : d.ok) (hn : wrNo d k s = some (e, d')) :
    fnVC C3 mFWrite [.ptr 1 0, .v (.int .i64 k), .v (.string s)] (hp3r d x) 5 fun v H' n' => Sub 5 ⟨[(0, .v (.int .i64 e))], hp3r d' x, 5⟩ ⟨[(0, v)], H', n'⟩ := by
  obtain ⟨h1, h2, h3, h4, h5, h6, h7, h8, h9, h10⟩ := hd
  unfold wrNo at hn
  unfold hp3r devB secB mFWrite
  simp -implicitDefEqProofs only [↓fnVC, initTm]
  simp -implicitDefEqProofs only [go_sem]
  refine in_call mix3 tFat ?_
  unfold mFat
  simp -implicitDefEqProofs only [↓fnVC, initTm]
  cases hoff : d.off with
  | true =>
    rw [hoff, if_pos rfl] at hn
    cases hn
    simp -implicitDefEqProofs only [go_sem, hoff]
    refine sub_mk [] rfl rfl rfl ?_
    simp only [tmSub, hpSub, objSub, eqTm, eqHp, rn, lk, SV.ren, SV.renC, SV.renB, SV.renA, ren_ints, ren_strs, ren_pl, ren_svs, SV.v.injEq, Value.int.injEq, Body.ints.injEq, SV.ptr.injEq, SV.sl.injEq, Value.string.injEq, Value.bool.injEq, List.map_cons, List.map_nil, forall_const, Nat.reduceLT, Nat.lt_add_one, imp_self, true_and, and_true, and_self, ob_some, get_mk, lk_cons, ↓reduceIte, Nat.reduceEqDiff, ne_eq, not_true_eq_false, not_false_eq_true, Nat.one_ne_zero, Nat.zero_ne_one, Nat.succ_ne_self, Nat.reduceAdd, Bool.false_eq_true, false_implies, implies_true, reduceCtorEq, hoff]
  | false =>
    rw [hoff, if_neg (by simp)] at hn
    simp -implicitDefEqProofs only [go_sem, hoff]
    by_cases c1 : k < 0
    · rw [if_pos (.inl c1)] at hn
      cases hn
      have e1 : decide (k < 0) = true := decide_eq_true c1
      simp -implicitDefEqProofs only [go_sem, e1]
      refine sub_mk [] rfl rfl rfl ?_
      simp only [tmSub, hpSub, objSub, eqTm, eqHp, rn, lk, SV.ren, SV.renC, SV.renB, SV.renA, ren_ints, ren_strs, ren_pl, ren_svs, SV.v.injEq, Value.int.injEq, Body.ints.injEq, SV.ptr.injEq, SV.sl.injEq, Value.string.injEq, Value.bool.injEq, List.map_cons, List.map_nil, forall_const, Nat.reduceLT, Nat.lt_add_one, imp_self, true_and, and_true, and_self, ob_some, get_mk, lk_cons, ↓reduceIte, Nat.reduceEqDiff, ne_eq, not_true_eq_false, not_false_eq_true, Nat.one_ne_zero, Nat.zero_ne_one, Nat.succ_ne_self, Nat.reduceAdd, Bool.false_eq_true, false_implies, implies_true, reduceCtorEq, hoff]
    have e1 : decide (k < 0) = false := decide_eq_false c1
    simp -implicitDefEqProofs only [go_sem, e1]
    refine in_call mix3 tFSectors ?_
    unfold mFSectors
    simp -implicitDefEqProofs only [↓fnVC, initTm]
    by_cases c2 : (d.seen.length : Int) ≤ k
    · rw [if_pos (.inr c2)] at hn
      cases hn
      have e2 : decide (k ≥ (d.seen.length : Int)) = true := decide_eq_true c2
      simp -implicitDefEqProofs only [go_sem, e1, e2]
      refine sub_mk [] rfl rfl rfl ?_
      simp only [tmSub, hpSub, objSub, eqTm, eqHp, rn, lk, SV.ren, SV.renC, SV.renB, SV.renA, ren_ints, ren_strs, ren_pl, ren_svs, SV.v.injEq, Value.int.injEq, Body.ints.injEq, SV.ptr.injEq, SV.sl.injEq, Value.string.injEq, Value.bool.injEq, List.map_cons, List.map_nil, forall_const, Nat.reduceLT, Nat.lt_add_one, imp_self, true_and, and_true, and_self, ob_some, get_mk, lk_cons, ↓reduceIte, Nat.reduceEqDiff, ne_eq, not_true_eq_false, not_false_eq_true, Nat.one_ne_zero, Nat.zero_ne_one, Nat.succ_ne_self, Nat.reduceAdd, Bool.false_eq_true, false_implies, implies_true, reduceCtorEq, hoff]
    rw [if_neg (fun h => h.elim c1 c2)] at hn
    have e2 : decide (k ≥ (d.seen.length : Int)) = false := decide_eq_false c2
    simp -implicitDefEqProofs only [go_sem, e1, e2]
    by_cases c3 : 64 < s.size
    · rw [if_pos c3] at hn
      cases hn
      have e3 : decide ((s.size : Int) > 64) = true := decide_eq_true (by omega)
      simp -implicitDefEqProofs only [go_sem, e3]
      refine sub_mk [] rfl rfl rfl ?_
      simp only [tmSub, hpSub, objSub, eqTm, eqHp, rn, lk, SV.ren, SV.renC, SV.renB, SV.renA, ren_ints, ren_strs, ren_pl, ren_svs, SV.v.injEq, Value.int.injEq, Body.ints.injEq, SV.ptr.injEq, SV.sl.injEq, Value.string.injEq, Value.bool.injEq, List.map_cons, List.map_nil, forall_const, Nat.reduceLT, Nat.lt_add_one, imp_self, true_and, and_true, and_self, ob_some, get_mk, lk_cons, ↓reduceIte, Nat.reduceEqDiff, ne_eq, not_true_eq_false, not_false_eq_true, Nat.one_ne_zero, Nat.zero_ne_one, Nat.succ_ne_self, Nat.reduceAdd, Bool.false_eq_true, false_implies, implies_true, reduceCtorEq, hoff]
    rw [if_neg c3] at hn
    have e3 : decide ((s.size : Int) > 64) = false := decide_eq_false (by omega)
    simp -implicitDefEqProofs only [go_sem, e3]
    split at hn
    · rename_i c4
      cases hn
      refine in_call mix3 tFstep ?_
      unfold mFstep
      simp -implicitDefEqProofs only [↓fnVC, initTm]
      have e4 : decide ((1 : Int) > 0) = true := rfl
      have e5 : decide (IntKind.i64.wrap (1 - 1) = 0) = true := rfl
      have q1 : (stepD d).st = d.st := by simp [stepD, c4]
      have q2 : (stepD d).fa = IntKind.i64.wrap (1 - 1) := by simp [stepD, c4]; rfl
      have q3 : (stepD d).off = true := by simp [stepD, c4]
      have q4 : (stepD d).seen = d.seen := by simp [stepD, c4]
      have q5 : (stepD d).safe = d.safe := by simp [stepD, c4]
      have q6 : (stepD d).pend = d.pend := by simp [stepD, c4]
      simp -implicitDefEqProofs only [go_sem, c4, e4, e5]
      refine sub_mk [] rfl rfl rfl ?_
      simp only [tmSub, hpSub, objSub, eqTm, eqHp, rn, lk, SV.ren, SV.renC, SV.renB, SV.renA, ren_ints, ren_strs, ren_pl, ren_svs, SV.v.injEq, Value.int.injEq, Body.ints.injEq, SV.ptr.injEq, SV.sl.injEq, Value.string.injEq, Value.bool.injEq, List.map_cons, List.map_nil, forall_const, Nat.reduceLT, Nat.lt_add_one, imp_self, true_and, and_true, and_self, ob_some, get_mk, lk_cons, ↓reduceIte, Nat.reduceEqDiff, ne_eq, not_true_eq_false, not_false_eq_true, Nat.one_ne_zero, Nat.zero_ne_one, Nat.succ_ne_self, Nat.reduceAdd, Bool.false_eq_true, false_implies, implies_true, reduceCtorEq, q1, q2, q3, q4, q5, q6]
    · cases hn
variable {H : Hp} {n : Nat} {x : Nat → Option SO}
def setl (S : List (List Int)) (ws : List (Nat × List Int)) : List (List Int) := ws.foldl (fun S w => S.set w.1 w.2) S
theorem setl_succ {S : List (List Int)} {ws : List (Nat × List Int)} {t : Nat} (h : t < ws.length) : setl S (ws.take (t + 1)) = (setl S (ws.take t)).set (ws.getD t (0, [])).1 (ws.getD t (0, [])).2 := by
  unfold setl
  rw [List.take_add_one, List.foldl_append, List.getElem?_eq_getElem h, List.getD_eq_getElem?_getD, List.getElem?_eq_getElem h]; rfl
theorem setl_len : ∀ {ws : List (Nat × List Int)} {S : List (List Int)}, (setl S ws).length = S.length
  | [], S => rfl
  | w :: ws, S => by
    show (setl (S.set w.1 w.2) ws).length = _
    rw [setl_len, List.length_set]
theorem setl_all : ∀ {ws : List (Nat × List Int)} {S : List (List Int)}, (∀ w ∈ ws, w.2.length = 64) → (∀ s ∈ S, s.length = 64) → ∀ s ∈ setl S ws, s.length = 64
  | [], S, _, h => h
  | w :: ws, S, hw, h => by
    show ∀ s ∈ setl (S.set w.1 w.2) ws, _
    exact setl_all (fun w' hw' => hw w' (List.mem_cons_of_mem _ hw')) (set_all h (hw w (List.mem_cons_self ..)))
def hp3b (d : Fd) (c : Nat) (ws : List (Nat × List Int)) (x : Nat → Option SO) : Hp := ⟨[(1, some ⟨true, devB d 2 3 c⟩), (2, some ⟨true, secB d.seen⟩), (3, some ⟨true, secB d.safe⟩), (4, some ⟨false, .pl (prow ws)⟩)], x⟩
theorem wcell_hd {w : Nat × List Int} : (wcell w)[0]? = some (.int .i64 w.1) := rfl
theorem zw_all {w : Nat × List Int} (h : w.2.length = 64) : splice zw 0 (wcell w) = wcell w := by
  rw [splice_zero, wcell_len h]
  have : zw.drop 65 = [] := rfl
  rw [this, List.append_nil]
theorem wF12 {d : Fd} (hd : d.ok) (hoff : d.off = false) (hfa : d.fa ≠ 1) :
    fnVC C3 mFBarrier [.ptr 1 0] (hp3b d 4 d.pend x) 5 fun v H' n' => Sub 5 ⟨[(0, .v (.int .i64 0))], ⟨[(1, some ⟨true, devB { stepD d with safe := setl d.safe d.pend, pend := [] } 2 3 5⟩), (2, some ⟨true, secB d.seen⟩), (3, some ⟨true, secB (setl d.safe d.pend)⟩), (4, some ⟨false, .pl (prow d.pend)⟩), (5, some ⟨true, .pl []⟩)], x⟩, 6⟩ ⟨[(0, v)], H', n'⟩ := by
  have hd' := hd
  obtain ⟨h1, h2, h3, h4, h5, h6, h7, h8, h9, h10⟩ := hd
  have q1 : (stepD d).st = IntKind.i64.wrap (d.st + 1) := by rw [wrap_i64 (by omega) (by omega)]; simp [stepD, hfa]
  have q3 : (stepD d).off = false := by simp [stepD, hfa, hoff]
  have q4 : (stepD d).seen = d.seen := by simp [stepD, hfa]
  have hrow := fun t (h : t < d.pend.length) => prow_at (j := t) (fun w hw => (h5 w hw).2) h
  have hplen := prow_len (ws := d.pend) (fun w hw => (h5 w hw).2)
  unfold hp3b devB secB mFBarrier
  simp -implicitDefEqProofs only [↓fnVC, initTm]
  simp -implicitDefEqProofs only [go_sem, hoff]
  refine in_call mix3 tFstep ?_
  unfold mFstep
  simp -implicitDefEqProofs only [↓fnVC, initTm]
  simp -implicitDefEqProofs only [go_sem]
  refine condK_bb (fun e4 => ?_) (fun e4 => ?_)
  · have e5 : decide (IntKind.i64.wrap (d.fa - 1) = 0) = false := decide_eq_false (by rw [wrap_i64 (by omega) (by omega)]; omega)
    have q2 : (stepD d).fa = IntKind.i64.wrap (d.fa - 1) := by rw [wrap_i64 (by omega) (by omega)]; simp only [decide_eq_true_eq] at e4; simp [stepD, hfa]; intro; omega
    simp -implicitDefEqProofs only [go_sem, e4, e5]
    refine loop_fam (fun t : Nat => t ≤ d.pend.length) (fun t => ⟨[(0, .ptr 1 0), (22, .sl 4 0 d.pend.length 65), (23, .v (.int .i64 d.pend.length)), (24, .v (.int .i64 t))],
      ⟨[(1, some ⟨true, .sv [.sl 2 0 d.seen.length 64, .sl 3 0 d.seen.length 64, .sl 4 0 d.pend.length 65, .v (.int .i64 (IntKind.i64.wrap (d.st + 1))), .v (.int .i64 (IntKind.i64.wrap (d.fa - 1))), .v (.bool false)]⟩), (2, some ⟨true, .ints .u8 d.seen.flatten⟩), (3, some ⟨true, .ints .u8 (setl d.safe (d.pend.take t)).flatten⟩), (4, some ⟨false, .pl (prow d.pend)⟩)], x⟩, 5⟩) (fun t => d.pend.length - t) 0 (by omega) ?_ ?_
    · refine sub0 rfl rfl ?_
      simp only [tmSub, hpSub, objSub, eqTm, eqHp, rn, lk, SV.ren, SV.renC, SV.renB, SV.renA, ren_ints, ren_strs, ren_pl, ren_svs, SV.v.injEq, Value.int.injEq, Body.ints.injEq, SV.ptr.injEq, SV.sl.injEq, Value.string.injEq, Value.bool.injEq, List.map_cons, List.map_nil, forall_const, Nat.reduceLT, Nat.lt_add_one, imp_self, true_and, and_true, and_self, ob_some, get_mk, lk_cons, ↓reduceIte, Nat.reduceEqDiff, ne_eq, not_true_eq_false, not_false_eq_true, Nat.one_ne_zero, Nat.zero_ne_one, Nat.succ_ne_self, Nat.reduceAdd, Bool.false_eq_true, false_implies, implies_true, reduceCtorEq, setl]
      exact ⟨rfl, rfl⟩
    · intro t ht
      simp -implicitDefEqProofs only [go_sem]
      refine condK_bb (fun e6 => ?_) (fun e6 => ?_)
      · have c6 : t < d.pend.length := by simp only [decide_eq_true_eq] at e6; omega
        have hw := h5 (d.pend.getD t (0, [])) (by rw [List.getD_eq_getElem?_getD, List.getElem?_eq_getElem c6]; exact List.getElem_mem c6)
        have p1 := hrow t c6
        have p4 := setl_succ (S := d.safe) c6
        generalize d.pend.getD t (0, []) = w at hw p1 p4
        have p2 := zw_all hw.2
        have p3 := wcell_len hw.2
        have p5 : List.take 64 (w.2.map (Value.int .u8)) = w.2.map (Value.int .u8) := List.take_of_length_le (by simp; omega)
        have p6 := setl_all (ws := d.pend.take t) (S := d.safe) (fun w hw => (h5 w (List.mem_of_mem_take hw)).2) h2
        have p7 : (setl d.safe (d.pend.take t)).length = d.seen.length := by rw [setl_len, h3]
        have p8 := flat_set (s := w.2) p6 (by rw [p7]; exact hw.1) hw.2
        have p9 := flat_len p6
        simp -implicitDefEqProofs only [go_sem, p1, p2, p3, p5, p8, wcell_hd, wcell_tl, ones_wcell, List.length_map, hw.2]
        refine ⟨by omega, by omega, by omega, by omega, kLoop_mk (t + 1) (by omega) (by omega) (sub0 rfl rfl ?_)⟩
        simp only [tmSub, hpSub, objSub, eqTm, eqHp, rn, lk, SV.ren, SV.renC, SV.renB, SV.renA, ren_ints, ren_strs, ren_pl, ren_svs, SV.v.injEq, Value.int.injEq, Body.ints.injEq, SV.ptr.injEq, SV.sl.injEq, Value.string.injEq, Value.bool.injEq, List.map_cons, List.map_nil, forall_const, Nat.reduceLT, Nat.lt_add_one, imp_self, true_and, and_true, and_self, ob_some, get_mk, lk_cons, ↓reduceIte, Nat.reduceEqDiff, ne_eq, not_true_eq_false, not_false_eq_true, Nat.one_ne_zero, Nat.zero_ne_one, Nat.succ_ne_self, Nat.reduceAdd, Bool.false_eq_true, false_implies, implies_true, reduceCtorEq, p4]
        rw [wrap_i64 (by omega) (by omega)]
        exact Int.natCast_add t 1
      · have c6 : d.pend.take t = d.pend := List.take_of_length_le (by simp only [decide_eq_false_iff_not] at e6; omega)
        simp -implicitDefEqProofs only [go_sem, c6]
        refine sub_mk [(5, 0)] rfl rfl rfl ?_
        simp only [tmSub, hpSub, objSub, eqTm, eqHp, rn, lk, SV.ren, SV.renC, SV.renB, SV.renA, ren_ints, ren_strs, ren_pl, ren_svs, SV.v.injEq, Value.int.injEq, Body.ints.injEq, SV.ptr.injEq, SV.sl.injEq, Value.string.injEq, Value.bool.injEq, List.map_cons, List.map_nil, forall_const, Nat.reduceLT, Nat.lt_add_one, imp_self, true_and, and_true, and_self, ob_some, get_mk, lk_cons, ↓reduceIte, Nat.reduceEqDiff, ne_eq, not_true_eq_false, not_false_eq_true, Nat.one_ne_zero, Nat.zero_ne_one, Nat.succ_ne_self, Nat.reduceAdd, Bool.false_eq_true, false_implies, implies_true, reduceCtorEq, q1, q2, q3, q4, List.length_nil]
        rfl
  · simp -implicitDefEqProofs only [go_sem, e4]
    have q2 : (stepD d).fa = d.fa := by simp only [decide_eq_false_iff_not] at e4; simp [stepD, hfa]; intro; omega
    refine loop_fam (fun t : Nat => t ≤ d.pend.length) (fun t => ⟨[(0, .ptr 1 0), (22, .sl 4 0 d.pend.length 65), (23, .v (.int .i64 d.pend.length)), (24, .v (.int .i64 t))],
      ⟨[(1, some ⟨true, .sv [.sl 2 0 d.seen.length 64, .sl 3 0 d.seen.length 64, .sl 4 0 d.pend.length 65, .v (.int .i64 (IntKind.i64.wrap (d.st + 1))), .v (.int .i64 d.fa), .v (.bool false)]⟩), (2, some ⟨true, .ints .u8 d.seen.flatten⟩), (3, some ⟨true, .ints .u8 (setl d.safe (d.pend.take t)).flatten⟩), (4, some ⟨false, .pl (prow d.pend)⟩)], x⟩, 5⟩) (fun t => d.pend.length - t) 0 (by omega) ?_ ?_
    · refine sub0 rfl rfl ?_
      simp only [tmSub, hpSub, objSub, eqTm, eqHp, rn, lk, SV.ren, SV.renC, SV.renB, SV.renA, ren_ints, ren_strs, ren_pl, ren_svs, SV.v.injEq, Value.int.injEq, Body.ints.injEq, SV.ptr.injEq, SV.sl.injEq, Value.string.injEq, Value.bool.injEq, List.map_cons, List.map_nil, forall_const, Nat.reduceLT, Nat.lt_add_one, imp_self, true_and, and_true, and_self, ob_some, get_mk, lk_cons, ↓reduceIte, Nat.reduceEqDiff, ne_eq, not_true_eq_false, not_false_eq_true, Nat.one_ne_zero, Nat.zero_ne_one, Nat.succ_ne_self, Nat.reduceAdd, Bool.false_eq_true, false_implies, implies_true, reduceCtorEq, setl]
      exact ⟨rfl, rfl⟩
    · intro t ht
      simp -implicitDefEqProofs only [go_sem]
      refine condK_bb (fun e6 => ?_) (fun e6 => ?_)
      · have c6 : t < d.pend.length := by simp only [decide_eq_true_eq] at e6; omega
        have hw := h5 (d.pend.getD t (0, [])) (by rw [List.getD_eq_getElem?_getD, List.getElem?_eq_getElem c6]; exact List.getElem_mem c6)
        have p1 := hrow t c6
        have p4 := setl_succ (S := d.safe) c6
        generalize d.pend.getD t (0, []) = w at hw p1 p4
        have p2 := zw_all hw.2
        have p3 := wcell_len hw.2
        have p5 : List.take 64 (w.2.map (Value.int .u8)) = w.2.map (Value.int .u8) := List.take_of_length_le (by simp; omega)
        have p6 := setl_all (ws := d.pend.take t) (S := d.safe) (fun w hw => (h5 w (List.mem_of_mem_take hw)).2) h2
        have p7 : (setl d.safe (d.pend.take t)).length = d.seen.length := by rw [setl_len, h3]
        have p8 := flat_set (s := w.2) p6 (by rw [p7]; exact hw.1) hw.2
        have p9 := flat_len p6
        simp -implicitDefEqProofs only [go_sem, p1, p2, p3, p5, p8, wcell_hd, wcell_tl, ones_wcell, List.length_map, hw.2]
        refine ⟨by omega, by omega, by omega, by omega, kLoop_mk (t + 1) (by omega) (by omega) (sub0 rfl rfl ?_)⟩
        simp only [tmSub, hpSub, objSub, eqTm, eqHp, rn, lk, SV.ren, SV.renC, SV.renB, SV.renA, ren_ints, ren_strs, ren_pl, ren_svs, SV.v.injEq, Value.int.injEq, Body.ints.injEq, SV.ptr.injEq, SV.sl.injEq, Value.string.injEq, Value.bool.injEq, List.map_cons, List.map_nil, forall_const, Nat.reduceLT, Nat.lt_add_one, imp_self, true_and, and_true, and_self, ob_some, get_mk, lk_cons, ↓reduceIte, Nat.reduceEqDiff, ne_eq, not_true_eq_false, not_false_eq_true, Nat.one_ne_zero, Nat.zero_ne_one, Nat.succ_ne_self, Nat.reduceAdd, Bool.false_eq_true, false_implies, implies_true, reduceCtorEq, p4]
        rw [wrap_i64 (by omega) (by omega)]
        exact Int.natCast_add t 1
      · have c6 : d.pend.take t = d.pend := List.take_of_length_le (by simp only [decide_eq_false_iff_not] at e6; omega)
        simp -implicitDefEqProofs only [go_sem, c6]
        refine sub_mk [(5, 0)] rfl rfl rfl ?_
        simp only [tmSub, hpSub, objSub, eqTm, eqHp, rn, lk, SV.ren, SV.renC, SV.renB, SV.renA, ren_ints, ren_strs, ren_pl, ren_svs, SV.v.injEq, Value.int.injEq, Body.ints.injEq, SV.ptr.injEq, SV.sl.injEq, Value.string.injEq, Value.bool.injEq, List.map_cons, List.map_nil, forall_const, Nat.reduceLT, Nat.lt_add_one, imp_self, true_and, and_true, and_self, ob_some, get_mk, lk_cons, ↓reduceIte, Nat.reduceEqDiff, ne_eq, not_true_eq_false, not_false_eq_true, Nat.one_ne_zero, Nat.zero_ne_one, Nat.succ_ne_self, Nat.reduceAdd, Bool.false_eq_true, false_implies, implies_true, reduceCtorEq, q1, q2, q3, q4, List.length_nil]
        rfl
variable {H : Hp} {n : Nat} {x : Nat → Option SO}
theorem wF12n {d d' : Fd} {e : Int} (hn : (if d.off then some ((7 : Int), d) else if d.fa = 1 then some (7, stepD d) else none) = some (e, d')) :
    fnVC C3 mFBarrier [.ptr 1 0] (hp3r d x) 5 fun v H' n' => Sub 5 ⟨[(0, .v (.int .i64 e))], hp3r d' x, 5⟩ ⟨[(0, v)], H', n'⟩ := by
  unfold hp3r devB secB mFBarrier
  simp -implicitDefEqProofs only [↓fnVC, initTm]
  cases hoff : d.off with
  | true =>
    rw [hoff, if_pos rfl] at hn
    cases hn
    simp -implicitDefEqProofs only [go_sem, hoff]
    refine sub_mk [] rfl rfl rfl ?_
    simp only [tmSub, hpSub, objSub, eqTm, eqHp, rn, lk, SV.ren, SV.renC, SV.renB, SV.renA, ren_ints, ren_strs, ren_pl, ren_svs, SV.v.injEq, Value.int.injEq, Body.ints.injEq, SV.ptr.injEq, SV.sl.injEq, Value.string.injEq, Value.bool.injEq, List.map_cons, List.map_nil, forall_const, Nat.reduceLT, Nat.lt_add_one, imp_self, true_and, and_true, and_self, ob_some, get_mk, lk_cons, ↓reduceIte, Nat.reduceEqDiff, ne_eq, not_true_eq_false, not_false_eq_true, Nat.one_ne_zero, Nat.zero_ne_one, Nat.succ_ne_self, Nat.reduceAdd, Bool.false_eq_true, false_implies, implies_true, reduceCtorEq, hoff]
  | false =>
    rw [hoff, if_neg (by simp)] at hn
    split at hn
    · rename_i c4
      cases hn
      simp -implicitDefEqProofs only [go_sem, hoff]
      refine in_call mix3 tFstep ?_
      unfold mFstep
      simp -implicitDefEqProofs only [↓fnVC, initTm]
      have e4 : decide ((1 : Int) > 0) = true := rfl
      have e5 : decide (IntKind.i64.wrap (1 - 1) = 0) = true := rfl
      have q1 : (stepD d).st = d.st := by simp [stepD, c4]
      have q2 : (stepD d).fa = IntKind.i64.wrap (1 - 1) := by simp [stepD, c4]; rfl
      have q3 : (stepD d).off = true := by simp [stepD, c4]
      have q4 : (stepD d).seen = d.seen := by simp [stepD, c4]
      have q5 : (stepD d).safe = d.safe := by simp [stepD, c4]
      have q6 : (stepD d).pend = d.pend := by simp [stepD, c4]
      simp -implicitDefEqProofs only [go_sem, c4, e4, e5]
      refine sub_mk [] rfl rfl rfl ?_
      simp only [tmSub, hpSub, objSub, eqTm, eqHp, rn, lk, SV.ren, SV.renC, SV.renB, SV.renA, ren_ints, ren_strs, ren_pl, ren_svs, SV.v.injEq, Value.int.injEq, Body.ints.injEq, SV.ptr.injEq, SV.sl.injEq, Value.string.injEq, Value.bool.injEq, List.map_cons, List.map_nil, forall_const, Nat.reduceLT, Nat.lt_add_one, imp_self, true_and, and_true, and_self, ob_some, get_mk, lk_cons, ↓reduceIte, Nat.reduceEqDiff, ne_eq, not_true_eq_false, not_false_eq_true, Nat.one_ne_zero, Nat.zero_ne_one, Nat.succ_ne_self, Nat.reduceAdd, Bool.false_eq_true, false_implies, implies_true, reduceCtorEq, q1, q2, q3, q4, q5, q6]
    · cases hn
def rdV (d : Fd) (k : Int) : SV :=
  if d.off then .tup [.v (.string ⟨#[]⟩), .v (.int .i64 7)] else if k < 0 ∨ (d.seen.length : Int) ≤ k then .tup [.v (.string ⟨#[]⟩), .v (.int .i64 1)] else .tup [.v (.string (tx (d.seen.getD k.toNat []))), .v (.int .i64 0)]
def hp3s (d : Fd) (x : Nat → Option SO) : Hp := ⟨[(1, some ⟨false, devB d 2 3 4⟩), (2, some ⟨false, secB d.seen⟩), (3, some ⟨false, secB d.safe⟩), (4, some ⟨false, .pl (prow d.pend)⟩)], x⟩
theorem wF14 {d : Fd} {k : Int} (hd : d.ok) :
    fnVC C3 mFRead [.ptr 1 0, .v (.int .i64 k)] (hp3s d x) 5 fun v H' n' => v = rdV d k ∧ H' = hp3s d x ∧ n' = 5 := by
  obtain ⟨h1, h2, h3, h4, h5, h6, h7, h8, h9, h10⟩ := hd
  unfold hp3s devB secB mFRead
  simp -implicitDefEqProofs only [↓fnVC, initTm]
  simp -implicitDefEqProofs only [go_sem]
  refine in_call mix3 tFat ?_
  unfold mFat
  simp -implicitDefEqProofs only [↓fnVC, initTm]
  cases hoff : d.off with
  | true =>
    have hv : rdV d k = .tup [.v (.string ⟨#[]⟩), .v (.int .i64 7)] := by unfold rdV; rw [if_pos hoff]
    simp -implicitDefEqProofs only [go_sem, hoff, hv]
  | false =>
    have hof : ¬ (d.off = true) := by rw [hoff]; simp
    simp -implicitDefEqProofs only [go_sem, hoff]
    by_cases c1 : k < 0
    · have e1 : decide (k < 0) = true := decide_eq_true c1
      have hv : rdV d k = .tup [.v (.string ⟨#[]⟩), .v (.int .i64 1)] := by unfold rdV; rw [if_neg hof, if_pos (Or.inl c1)]
      simp -implicitDefEqProofs only [go_sem, e1, hv]
    have e1 : decide (k < 0) = false := decide_eq_false c1
    simp -implicitDefEqProofs only [go_sem, e1]
    refine in_call mix3 tFSectors ?_
    unfold mFSectors
    simp -implicitDefEqProofs only [↓fnVC, initTm]
    by_cases c2 : (d.seen.length : Int) ≤ k
    · have e2 : decide (k ≥ (d.seen.length : Int)) = true := decide_eq_true c2
      have hv : rdV d k = .tup [.v (.string ⟨#[]⟩), .v (.int .i64 1)] := by unfold rdV; rw [if_neg hof, if_pos (Or.inr c2)]
      simp -implicitDefEqProofs only [go_sem, e1, e2, hv]
    have e2 : decide (k ≥ (d.seen.length : Int)) = false := decide_eq_false c2
    have hv : rdV d k = .tup [.v (.string (tx (d.seen.getD k.toNat []))), .v (.int .i64 0)] := by unfold rdV; rw [if_neg hof, if_neg (fun h => h.elim c1 c2)]
    have hk : k.toNat < d.seen.length := by omega
    have r1 := flat_take h1 hk
    have r2 := getD_len h1 hk
    have r3 := flat_len h1
    simp -implicitDefEqProofs only [go_sem, e1, e2, r1, hv]
    refine ⟨by omega, by rw [List.length_map, r3]; omega, by omega, by rw [r3]; omega⟩
def newD (k : Nat) : Fd := { seen := List.replicate k (zi 64), safe := List.replicate k (zi 64), pend := [], st := 0, fa := 0, off := false }
theorem newD_ok {k : Nat} (hk : k ≤ 4096) : (newD k).ok :=
  ⟨fun s hs => by rw [List.eq_of_mem_replicate hs]; simp [zi], fun s hs => by rw [List.eq_of_mem_replicate hs]; simp [zi], by simp [newD], by simp [newD]; exact hk, fun w hw => by simp [newD] at hw, by simp [newD], by simp [newD], by simp [newD], by simp [newD], by simp [newD]⟩
theorem reps_zi {k : Nat} : (Body.ints .u8 (zi 64)).reps k = secB (List.replicate k (zi 64)) := rfl
theorem wF10 {k : Nat} (h0 : 1 ≤ k) (hk : k ≤ 4096) :
    fnVC C3 mFNew [.v (.int .i64 k)] ⟨[], x⟩ 1 fun v H' n' => Sub 1 ⟨[(0, .tup [.ptr 1 0, .v (.int .i64 0)])], hp3 (newD k) x, 5⟩ ⟨[(0, v)], H', n'⟩ := by
  have e1 : decide ((k : Int) < 1) = false := decide_eq_false (by omega)
  have e2 : decide ((k : Int) > 4096) = false := decide_eq_false (by omega)
  unfold hp3 devB secB mFNew
  simp -implicitDefEqProofs only [↓fnVC, initTm]
  simp -implicitDefEqProofs only [go_sem, e1, e2]
  have hb : ((64 : Nat) : Int) * (k : Int) ≤ 140737488355328 := by omega
  refine ⟨⟨⟨by omega, by omega, by omega, hb⟩, ⟨by omega, by omega, by omega, hb⟩, sub_mk [(1, 3), (2, 1), (3, 2), (4, 0)] rfl rfl rfl ?_⟩, ⟨by omega, by omega, by omega, hb⟩, ⟨by omega, by omega, by omega, hb⟩, sub_mk [(1, 3), (2, 2), (3, 1), (4, 0)] rfl rfl rfl ?_⟩
  · simp only [tmSub, hpSub, objSub, eqTm, eqHp, rn, lk, SV.ren, SV.renC, SV.renB, SV.renA, ren_ints, ren_strs, ren_pl, ren_svs, SV.v.injEq, Value.int.injEq, Body.ints.injEq, SV.ptr.injEq, SV.sl.injEq, Value.string.injEq, Value.bool.injEq, List.map_cons, List.map_nil, forall_const, Nat.reduceLT, Nat.lt_add_one, imp_self, true_and, and_true, and_self, ob_some, get_mk, lk_cons, ↓reduceIte, Nat.reduceEqDiff, ne_eq, not_true_eq_false, not_false_eq_true, Nat.one_ne_zero, Nat.zero_ne_one, Nat.succ_ne_self, Nat.reduceAdd, Bool.false_eq_true, false_implies, implies_true, reduceCtorEq, splice_zero, splice_succ, List.drop_succ_cons, List.drop_zero, List.drop_nil, List.cons_append, List.nil_append, List.length_cons, List.length_nil, newD, reps_zi, List.length_replicate, secB, prow, List.map_nil, List.flatten_nil]
    rfl
  · simp only [tmSub, hpSub, objSub, eqTm, eqHp, rn, lk, SV.ren, SV.renC, SV.renB, SV.renA, ren_ints, ren_strs, ren_pl, ren_svs, SV.v.injEq, Value.int.injEq, Body.ints.injEq, SV.ptr.injEq, SV.sl.injEq, Value.string.injEq, Value.bool.injEq, List.map_cons, List.map_nil, forall_const, Nat.reduceLT, Nat.lt_add_one, imp_self, true_and, and_true, and_self, ob_some, get_mk, lk_cons, ↓reduceIte, Nat.reduceEqDiff, ne_eq, not_true_eq_false, not_false_eq_true, Nat.one_ne_zero, Nat.zero_ne_one, Nat.succ_ne_self, Nat.reduceAdd, Bool.false_eq_true, false_implies, implies_true, reduceCtorEq, splice_zero, splice_succ, List.drop_succ_cons, List.drop_zero, List.drop_nil, List.cons_append, List.nil_append, List.length_cons, List.length_nil, newD, reps_zi, List.length_replicate, secB, prow, List.map_nil, List.flatten_nil]
    rfl
variable {H : Hp} {n : Nat} {x : Nat → Option SO}
def clampN (v : Int) : Nat := (min (max v 0) 64).toNat
theorem clampN_le (v : Int) : clampN v ≤ 64 := by unfold clampN; omega
def keepN (ks : List Int) (t : Nat) : Nat := if ks.length = 0 then 0 else clampN (ks.getD (t % ks.length) 0)
theorem keepN_le (ks : List Int) (t : Nat) : keepN ks t ≤ 64 := by
  unfold keepN; split
  · omega
  · exact clampN_le _
def crl (S : List (List Int)) (ws : List (Nat × List Int)) (kf : Nat → Nat) : Nat → List (List Int)
  | 0 => S
  | t + 1 => (crl S ws kf t).set (ws.getD t (0, [])).1 ((ws.getD t (0, [])).2.take (kf t) ++ ((crl S ws kf t).getD (ws.getD t (0, [])).1 []).drop (kf t))
theorem crl_len {S : List (List Int)} {ws : List (Nat × List Int)} {kf : Nat → Nat} : ∀ t, (crl S ws kf t).length = S.length
  | 0 => rfl
  | t + 1 => by simp only [crl, List.length_set]; exact crl_len t
theorem cut_len {k : Nat} {a b : List Int} (ha : a.length = 64) (hb : b.length = 64) : (a.take k ++ b.drop k).length = 64 := by simp; omega
theorem crl_all {S : List (List Int)} {ws : List (Nat × List Int)} {kf : Nat → Nat} (hS : ∀ s ∈ S, s.length = 64) (hw : ∀ w ∈ ws, w.1 < S.length ∧ w.2.length = 64) : ∀ t, t ≤ ws.length → ∀ s ∈ crl S ws kf t, s.length = 64
  | 0, _ => hS
  | t + 1, ht => by
    have c6 : t < ws.length := by omega
    have hw' := hw (ws.getD t (0, [])) (by rw [List.getD_eq_getElem?_getD, List.getElem?_eq_getElem c6]; exact List.getElem_mem c6)
    have ih := crl_all (kf := kf) hS hw t (by omega)
    exact set_all ih (cut_len hw'.2 (getD_len ih (by rw [crl_len]; exact hw'.1)))
variable {H : Hp} {n : Nat} {x : Nat → Option SO} {d d' : Fd} {i a b c : Nat}
theorem ok3 : OKT Tryz.prog C3 := okCS mix3
abbrev dis4 (i a b c : Nat) : Prop := (0 < i ∧ 0 < a ∧ 0 < b ∧ 0 < c) ∧ (i < 1000 ∧ a < 1000 ∧ b < 1000 ∧ c < 1000) ∧ i ≠ a ∧ i ≠ b ∧ i ≠ c ∧ a ≠ b ∧ a ≠ c ∧ b ≠ c
structure DevAt (H : Hp) (d : Fd) (i a b c : Nat) : Prop where
  gi : H.get i = some ⟨true, devB d a b c⟩
  ga : H.get a = some ⟨true, secB d.seen⟩
  gb : H.get b = some ⟨true, secB d.safe⟩
  gc : H.get c = some ⟨true, .pl (prow d.pend)⟩
  ne : dis4 i a b c
theorem wrS {k : Nat} {s : ByteArray} (h : DevAt H d i a b c) (hd : d.ok) (hk : k < d.seen.length) (hs : s.size ≤ 64) (hoff : d.off = false) (hfa : d.fa ≠ 1) (hn : n < 1000) :
    SpecAt Tryz.prog nFWrite [.ptr i 0, .v (.int .i64 k), .v (.string s)] H n (.v (.int .i64 0))
      ⟨(i, some ⟨true, devB { stepD d with seen := d.seen.set k (pad64 (bts s)), pend := d.pend ++ [(k, pad64 (bts s))] } a b n⟩) :: (a, some ⟨true, secB (d.seen.set k (pad64 (bts s)))⟩) :: (b, some ⟨true, secB d.safe⟩) :: (c, none) :: (n, some ⟨true, .pl (prow (d.pend ++ [(k, pad64 (bts s))]))⟩) :: H.l, H.x⟩ (n + 1) := by
  obtain ⟨hi, ha, hb, hc, ⟨p1, p2, p3, p4⟩, ⟨q1, q2, q3, q4⟩, n1, n2, n3, n4, n5, n6⟩ := h
  have := lift (n := n) (ok3.spec tFWrite (wF11 (x := H.x) hd hk hs hoff hfa)) [(1, i), (2, a), (3, b), (4, c)] rfl rfl rfl (by omega) rfl rfl
    ⟨sub_wr rfl p1 q1 hi rfl, sub_wr rfl p2 q2 ha rfl, sub_wr rfl p3 q3 hb rfl, sub_wr rfl p4 q4 hc rfl, trivial⟩
    (by simp [apartB, apart1, rn, lk, n1, n2, n3, n4, n5, n6, Ne.symm n1, Ne.symm n2, Ne.symm n3, Ne.symm n4, Ne.symm n5, Ne.symm n6]) (by simp [wrNZ, rn, lk]; try omega) (by omega)
  exact this
theorem wrF {k e : Int} {s : ByteArray} (h : DevAt H d i a b c) (hd : d.ok) (hw : wrNo d k s = some (e, d')) (hr : d'.seen = d.seen ∧ d'.safe = d.safe ∧ d'.pend = d.pend) :
    SpecAt Tryz.prog nFWrite [.ptr i 0, .v (.int .i64 k), .v (.string s)] H n (.v (.int .i64 e)) ⟨(i, some ⟨true, devB d' a b c⟩) :: H.l, H.x⟩ n := by
  obtain ⟨hi, ha, hb, hc, ⟨p1, p2, p3, p4⟩, ⟨q1, q2, q3, q4⟩, n1, n2, n3, n4, n5, n6⟩ := h
  have := lift (n := n) (ok3.spec tFWrite (wF11n (x := H.x) hd hw)) [(1, i), (2, a), (3, b), (4, c)] rfl rfl rfl (by omega) rfl rfl
    ⟨sub_wr rfl p1 q1 hi rfl, sub_ro rfl p2 ha rfl, sub_ro rfl p3 hb rfl, sub_ro rfl p4 hc rfl, trivial⟩
    (by simp [apartB, apart1, rn, lk, n1, n2, n3, n4, n5, n6, Ne.symm n1, Ne.symm n2, Ne.symm n3, Ne.symm n4, Ne.symm n5, Ne.symm n6]) (by simp [wrNZ, rn, lk]; try omega) (by omega)
  exact this
theorem baS (h : DevAt H d i a b c) (hd : d.ok) (hoff : d.off = false) (hfa : d.fa ≠ 1) (hn : n < 1000) :
    SpecAt Tryz.prog nFBarrier [.ptr i 0] H n (.v (.int .i64 0))
      ⟨(i, some ⟨true, devB { stepD d with safe := setl d.safe d.pend, pend := [] } a b n⟩) :: (a, some ⟨true, secB d.seen⟩) :: (b, some ⟨true, secB (setl d.safe d.pend)⟩) :: (n, some ⟨true, .pl []⟩) :: H.l, H.x⟩ (n + 1) := by
  obtain ⟨hi, ha, hb, hc, ⟨p1, p2, p3, p4⟩, ⟨q1, q2, q3, q4⟩, n1, n2, n3, n4, n5, n6⟩ := h
  have := lift (n := n) (ok3.spec tFBarrier (wF12 (x := H.x) hd hoff hfa)) [(1, i), (2, a), (3, b), (4, c)] rfl rfl rfl (by omega) rfl rfl
    ⟨sub_wr rfl p1 q1 hi rfl, sub_wr rfl p2 q2 ha rfl, sub_wr rfl p3 q3 hb rfl, sub_ro rfl p4 hc rfl, trivial⟩
    (by simp [apartB, apart1, rn, lk, n1, n2, n3, n4, n5, n6, Ne.symm n1, Ne.symm n2, Ne.symm n3, Ne.symm n4, Ne.symm n5, Ne.symm n6]) (by simp [wrNZ, rn, lk]; try omega) (by omega)
  exact this
theorem baF {e : Int} (h : DevAt H d i a b c) (hw : (if d.off then some ((7 : Int), d) else if d.fa = 1 then some (7, stepD d) else none) = some (e, d')) :
    SpecAt Tryz.prog nFBarrier [.ptr i 0] H n (.v (.int .i64 e)) ⟨(i, some ⟨true, devB d' a b c⟩) :: H.l, H.x⟩ n := by
  obtain ⟨hi, ha, hb, hc, ⟨p1, p2, p3, p4⟩, ⟨q1, q2, q3, q4⟩, n1, n2, n3, n4, n5, n6⟩ := h
  have := lift (n := n) (ok3.spec tFBarrier (wF12n (x := H.x) hw)) [(1, i), (2, a), (3, b), (4, c)] rfl rfl rfl (by omega) rfl rfl
    ⟨sub_wr rfl p1 q1 hi rfl, sub_ro rfl p2 ha rfl, sub_ro rfl p3 hb rfl, sub_ro rfl p4 hc rfl, trivial⟩
    (by simp [apartB, apart1, rn, lk, n1, n2, n3, n4, n5, n6, Ne.symm n1, Ne.symm n2, Ne.symm n3, Ne.symm n4, Ne.symm n5, Ne.symm n6]) (by simp [wrNZ, rn, lk]; try omega) (by omega)
  exact this
theorem nwS {k : Nat} (h0 : 1 ≤ k) (hk : k ≤ 4096) (hn : n + 4 ≤ 1000) :
    SpecAt Tryz.prog nFNew [.v (.int .i64 k)] H n (.tup [.ptr n 0, .v (.int .i64 0)])
      ⟨(n, some ⟨true, devB (newD k) (n + 1) (n + 1 + 1) (n + 1 + 1 + 1)⟩) :: (n + 1, some ⟨true, secB (newD k).seen⟩) :: (n + 1 + 1, some ⟨true, secB (newD k).safe⟩) :: (n + 1 + 1 + 1, some ⟨true, .pl (prow (newD k).pend)⟩) :: H.l, H.x⟩ (n + 4) := by
  have := lift (n := n) (ok3.spec tFNew (wF10 (x := H.x) h0 hk)) [] rfl rfl rfl (by omega) rfl rfl trivial rfl rfl (by omega)
  exact this
variable {H : Hp} {n : Nat} {x : Nat → Option SO} {d d' : Fd} {i a b c : Nat}
def wrD (d : Fd) (k : Nat) (s : ByteArray) : Fd := { stepD d with seen := d.seen.set k (pad64 (bts s)), pend := d.pend ++ [(k, pad64 (bts s))] }
def baD (d : Fd) : Fd := { stepD d with safe := setl d.safe d.pend, pend := [] }
theorem stepD_no (h : d.fa ≠ 1) : stepD d = { d with fa := if 0 < d.fa then d.fa - 1 else d.fa, st := d.st + 1 } := by unfold stepD; rw [if_neg h]
theorem wrD_ok {k : Nat} {s : ByteArray} (hd : d.ok) (hk : k < d.seen.length) (hs : s.size ≤ 64) (hfa : d.fa ≠ 1) (hst : d.st < 1000000000000) (hfew : d.pend.length < 1000000000) : (wrD d k s).ok := by
  obtain ⟨h1, h2, h3, h4, h5, h6, h7, h8, h9, h10⟩ := hd
  have hp := pad64_len (ys := bts s) (by rw [bts_length]; exact hs)
  unfold wrD
  rw [stepD_no hfa]
  refine ⟨set_all h1 hp, h2, by simp [h3], by simp [h4], fun w hw => ?_, by simp; omega, by simp; omega, by simp; omega, by simp only; split <;> omega, by simp only; split <;> omega⟩
  simp only [List.mem_append, List.mem_singleton, List.length_set] at hw ⊢
  rcases hw with hw | rfl
  · exact h5 w hw
  · exact ⟨hk, hp⟩
theorem baD_ok (hd : d.ok) (hfa : d.fa ≠ 1) (hst : d.st < 1000000000000) : (baD d).ok := by
  obtain ⟨h1, h2, h3, h4, h5, h6, h7, h8, h9, h10⟩ := hd
  unfold baD
  rw [stepD_no hfa]
  exact ⟨h1, setl_all (fun w hw => (h5 w hw).2) h2, by simp only [setl_len]; exact h3, h4, fun w hw => by simp at hw, by simp, by simp only; omega, by simp only; omega, by simp only; split <;> omega, by simp only; split <;> omega⟩
theorem wrD_safe {k : Nat} {s : ByteArray} : (wrD d k s).safe = d.safe := by unfold wrD stepD; simp only; split <;> rfl
theorem wrD_len {k : Nat} {s : ByteArray} : (wrD d k s).seen.length = d.seen.length := by simp [wrD]
theorem wrD_off {k : Nat} {s : ByteArray} (h : d.fa ≠ 1) : (wrD d k s).off = d.off := by unfold wrD; rw [stepD_no h]
theorem wrD_fa {k : Nat} {s : ByteArray} (h : d.fa = 0) : (wrD d k s).fa = 0 := by unfold wrD; rw [stepD_no (by omega)]; simp [h]
theorem wrD_st {k : Nat} {s : ByteArray} (h : d.fa ≠ 1) : (wrD d k s).st = d.st + 1 := by unfold wrD; rw [stepD_no h]
theorem wrD_pend {k : Nat} {s : ByteArray} : (wrD d k s).pend = d.pend ++ [(k, pad64 (bts s))] := rfl
theorem wrD_seen {k : Nat} {s : ByteArray} : (wrD d k s).seen = d.seen.set k (pad64 (bts s)) := rfl
theorem baD_seen : (baD d).seen = d.seen := by unfold baD stepD; simp only; split <;> rfl
theorem baD_off (h : d.fa ≠ 1) : (baD d).off = d.off := by unfold baD; rw [stepD_no h]
theorem baD_fa (h : d.fa = 0) : (baD d).fa = 0 := by unfold baD; rw [stepD_no (by omega)]; simp [h]
theorem baD_st (h : d.fa ≠ 1) : (baD d).st = d.st + 1 := by unfold baD; rw [stepD_no h]
def devL (d : Fd) (i a b c : Nat) (l : List (Nat × Option SO)) : List (Nat × Option SO) :=
  (i, some ⟨true, devB d a b c⟩) :: (a, some ⟨true, secB d.seen⟩) :: (b, some ⟨true, secB d.safe⟩) :: (c, some ⟨true, .pl (prow d.pend)⟩) :: l
theorem devL_eq {l : List (Nat × Option SO)} : devL d i a b c l = (i, some ⟨true, devB d a b c⟩) :: (a, some ⟨true, secB d.seen⟩) :: (b, some ⟨true, secB d.safe⟩) :: (c, some ⟨true, .pl (prow d.pend)⟩) :: l := rfl
theorem nwD {k : Nat} (h0 : 1 ≤ k) (hk : k ≤ 4096) (hn : n + 4 ≤ 1000) :
    SpecAt Tryz.prog nFNew [.v (.int .i64 k)] H n (.tup [.ptr n 0, .v (.int .i64 0)]) ⟨devL (newD k) n (n + 1) (n + 1 + 1) (n + 1 + 1 + 1) H.l, H.x⟩ (n + 4) := nwS h0 hk hn
theorem wrW {k : Nat} {s : ByteArray} (h : DevAt H d i a b c) (hd : d.ok) (hk : k < d.seen.length) (hs : s.size ≤ 64) (hoff : d.off = false) (hfa : d.fa ≠ 1) (hn : n < 1000) (hD : wrD d k s = d') :
    SpecAt Tryz.prog nFWrite [.ptr i 0, .v (.int .i64 k), .v (.string s)] H n (.v (.int .i64 0))
      ⟨(i, some ⟨true, devB d' a b n⟩) :: (a, some ⟨true, secB d'.seen⟩) :: (b, some ⟨true, secB d'.safe⟩) :: (c, none) :: (n, some ⟨true, .pl (prow d'.pend)⟩) :: H.l, H.x⟩ (n + 1) := by
  subst hD
  rw [wrD_safe]
  exact wrS h hd hk hs hoff hfa hn
theorem baW (h : DevAt H d i a b c) (hd : d.ok) (hoff : d.off = false) (hfa : d.fa ≠ 1) (hn : n < 1000) (hD : baD d = d') :
    SpecAt Tryz.prog nFBarrier [.ptr i 0] H n (.v (.int .i64 0))
      ⟨(i, some ⟨true, devB d' a b n⟩) :: (a, some ⟨true, secB d'.seen⟩) :: (b, some ⟨true, secB d'.safe⟩) :: (n, some ⟨true, .pl (prow d'.pend)⟩) :: H.l, H.x⟩ (n + 1) := by
  subst hD
  rw [baD_seen]
  exact baS h hd hoff hfa hn
structure Gd (d : Fd) (k m : Nat) : Prop where
  ok : d.ok
  len : d.seen.length = k
  fa : d.fa = 0
  off : d.off = false
  st : d.st ≤ m
  few : d.pend.length ≤ m
theorem Gd.new {k : Nat} (hk : k ≤ 4096) : Gd (newD k) k 0 := ⟨newD_ok hk, by simp [newD], rfl, rfl, by simp [newD], by simp [newD]⟩
theorem Gd.wr {k m j : Nat} {s : ByteArray} (h : Gd d k m) (hj : j < k) (hs : s.size ≤ 64) (hm : m < 1000000) : Gd (wrD d j s) k (m + 1) :=
  have hf : d.fa ≠ 1 := by rw [h.fa]; omega
  ⟨wrD_ok h.ok (by rw [h.len]; exact hj) hs hf (by have := h.st; omega) (by have := h.few; omega), by rw [wrD_len, h.len], wrD_fa h.fa, by rw [wrD_off hf, h.off], by rw [wrD_st hf]; have := h.st; omega, by rw [wrD_pend]; have := h.few; simp; omega⟩
theorem Gd.ba {k m : Nat} (h : Gd d k m) (hm : m < 1000000) : Gd (baD d) k (m + 1) :=
  have hf : d.fa ≠ 1 := by rw [h.fa]; omega
  ⟨baD_ok h.ok hf (by have := h.st; omega), by rw [baD_seen, h.len], baD_fa h.fa, by rw [baD_off hf, h.off], by rw [baD_st hf]; have := h.st; omega, by simp [baD]⟩
end
section
/- A device, at this program. -/
set_option linter.unusedVariables false
set_option linter.unusedSimpArgs false
set_option maxRecDepth 100000
open Go.Proofs
variable {H : Hp} {n : Nat} {x : Nat → Option SO} {d d' : Fd} {i a b c : Nat}
theorem tx_size' (l : List Int) : (tx l).size = l.length := by simp [tx, ByteArray.size]
theorem tx_ext (l : List Int) (i j : Nat) : (tx l).extract i j = tx ((l.take j).drop i) := by
  unfold tx
  apply ByteArray.ext
  simp only [ByteArray.data_extract, List.map_drop, List.map_take, List.extract_toArray, List.extract_eq_take_drop, List.drop_take]
variable {H : Hp} {n : Nat} {x : Nat → Option SO} {d d' : Fd} {i a b c : Nat}
theorem offS (hg : H.get i = some ⟨true, devB d a b c⟩) : SpecAt Tryz.prog nFOff [.ptr i 0] H n (.v (.bool d.off)) H n := ok3.pure tFOff (by
  unfold mFOff
  simp -implicitDefEqProofs only [↓fnVC, initTm]
  simp -implicitDefEqProofs only [go_sem, hg, devB])
theorem seS (hg : H.get i = some ⟨true, devB d a b c⟩) : SpecAt Tryz.prog nFSectors [.ptr i 0] H n (.v (.int .i64 d.seen.length)) H n := ok3.pure tFSectors (by
  unfold mFSectors
  simp -implicitDefEqProofs only [↓fnVC, initTm]
  simp -implicitDefEqProofs only [go_sem, hg, devB])
variable {H : Hp} {n : Nat} {x : Nat → Option SO} {d d' : Fd} {i a b c : Nat}
variable {H : Hp} {n : Nat} {x : Nat → Option SO} {d d' : Fd} {i a b c : Nat}
def Sn (d : Fd) : Prop := d.seen = setl d.safe d.pend
theorem Sn.new {k : Nat} : Sn (newD k) := rfl
theorem setl_app {S : List (List Int)} {ws : List (Nat × List Int)} {w : Nat × List Int} : setl S (ws ++ [w]) = (setl S ws).set w.1 w.2 := by simp [setl, List.foldl_append]
theorem Sn.wr {j : Nat} {s : ByteArray} (h : Sn d) : Sn (wrD d j s) := by
  unfold Sn at *
  rw [wrD_seen, wrD_safe, wrD_pend, setl_app, ← h]
theorem Sn.ba (h : Sn d) : (baD d).seen = (baD d).safe := by
  rw [baD_seen]; exact h
open Go.ChangeShapes Go.WideShapes Go.ChangeAt Go.RowKit in
variable {H : Hp} {n : Nat} {x : Nat → Option SO} {d d' : Fd} {i a b c : Nat}
def qcell (w : Nat × List Int) : List Value := [.int .i64 w.1, .string (tx w.2)]
def qrow (ws : List (Nat × List Int)) : List Value := (ws.map qcell).flatten
def refB (d : Fd) (a b : Nat) : Body := .sv [.sl a 0 d.seen.length 1, .sl b 0 d.pend.length 2, .v (.int .i64 d.st), .v (.int .i64 d.fa), .v (.bool d.off)]
def strB (l : List (List Int)) : Body := .strs (l.map tx)
theorem qrow_all {ws : List (Nat × List Int)} : ∀ s ∈ ws.map qcell, s.length = 2 := fun s hs => by
  rw [List.mem_map] at hs; obtain ⟨w, _, rfl⟩ := hs; rfl
theorem qrow_len {ws : List (Nat × List Int)} : (qrow ws).length = ws.length * 2 := by
  unfold qrow; rw [flat_len qrow_all, List.length_map]
theorem qrow_at {ws : List (Nat × List Int)} {j : Nat} (hj : j < ws.length) : ((qrow ws).drop (j * 2)).take 2 = qcell (ws.getD j (0, [])) := by
  unfold qrow
  rw [flat_take qrow_all (by simpa using hj), List.getD_eq_getElem?_getD, List.getElem?_map, List.getD_eq_getElem?_getD, List.getElem?_eq_getElem hj]; rfl
theorem strB_get {l : List (List Int)} {j : Nat} (hj : j < l.length) : (l.map tx).getD j .empty = tx (l.getD j []) := by
  rw [List.getD_eq_getElem?_getD, List.getElem?_map, List.getD_eq_getElem?_getD, List.getElem?_eq_getElem hj]; rfl
def seI (d : Fd) (o m : Nat) (row ks : List Int) (x : Nat → Option SO) (t : Nat) : St :=
  ⟨[(0, .ptr 1 0), (1, .sl 4 o m 1), (5, .sl 5 0 d.seen.length 1), (6, .v (.int .i64 t))],
    ⟨[(1, some ⟨false, refB d 2 3⟩), (2, some ⟨false, strB d.safe⟩), (3, some ⟨false, .pl (qrow d.pend)⟩), (4, some ⟨false, .ints .i64 row⟩), (5, some ⟨true, strB (crl d.safe d.pend (keepN ks) t)⟩)], x⟩, 6⟩
theorem wF39 {d : Fd} {row : List Int} {o m : Nat} (hd : d.ok) (hom : o + m ≤ row.length) :
    fnVC C3 mrFsettled [.ptr 1 0, .sl 4 o m 1] ⟨[(1, some ⟨false, refB d 2 3⟩), (2, some ⟨false, strB d.safe⟩), (3, some ⟨false, .pl (qrow d.pend)⟩), (4, some ⟨false, .ints .i64 row⟩)], x⟩ 5
      fun v H' n' => Sub 5 ⟨[(0, .sl 5 0 d.seen.length 1)], ⟨[(1, some ⟨false, refB d 2 3⟩), (2, some ⟨false, strB d.safe⟩), (3, some ⟨false, .pl (qrow d.pend)⟩), (4, some ⟨false, .ints .i64 row⟩),
        (5, some ⟨true, strB (crl d.safe d.pend (keepN ((row.drop o).take m)) d.pend.length)⟩)], x⟩, 6⟩ ⟨[(0, v)], H', n'⟩ := by
  obtain ⟨h1, h2, h3, h4, h5, h6, h7, h8, h9, h10⟩ := hd
  have hrow := fun t (h : t < d.pend.length) => qrow_at (ws := d.pend) (j := t) h
  have hplen := qrow_len (ws := d.pend)
  obtain ⟨ks, hks⟩ : ∃ ks, ks = (row.drop o).take m := ⟨_, rfl⟩
  have hkl : ks.length = m := by rw [hks]; simp; omega
  have hkg : ∀ j, j < m → row.getD (o + j) 0 = ks.getD j 0 := fun j hj => by
    rw [hks, List.getD_eq_getElem?_getD, List.getD_eq_getElem?_getD, List.getElem?_take, if_pos hj, List.getElem?_drop]
  rw [← hks]
  have hall := crl_all (kf := keepN ks) h2 (fun w hw => ⟨by rw [h3]; exact (h5 w hw).1, (h5 w hw).2⟩)
  have r1 : (d.safe.map tx).take d.seen.length = d.safe.map tx := List.take_of_length_le (by simp; omega)
  unfold refB strB mrFsettled
  simp -implicitDefEqProofs only [↓fnVC, initTm]
  simp -implicitDefEqProofs only [go_sem, r1]
  refine ⟨by omega, by omega, by simp; omega, app_kill ?_⟩
  simp -implicitDefEqProofs only [go_sem, r1, List.take_nil, List.drop_nil, List.nil_append, List.drop_zero, List.take_zero, Nat.zero_add]
  refine loop_fam (fun t : Nat => t ≤ d.pend.length) (seI d o m row ks x) (fun t => d.pend.length - t) 0 (by omega) ?_ ?_
  · unfold seI refB strB
    refine sub_mk [(5, 6)] rfl rfl rfl ?_
    simp only [tmSub, hpSub, objSub, eqTm, eqHp, rn, lk, SV.ren, SV.renC, SV.renB, SV.renA, ren_ints, ren_strs, ren_pl, ren_svs, SV.v.injEq, Value.int.injEq, Body.ints.injEq, SV.ptr.injEq, SV.sl.injEq, Value.string.injEq, Value.bool.injEq, List.map_cons, List.map_nil, forall_const, Nat.reduceLT, Nat.lt_add_one, imp_self, true_and, and_true, and_self, ob_some, get_mk, lk_cons, ↓reduceIte, Nat.reduceEqDiff, ne_eq, not_true_eq_false, not_false_eq_true, Nat.one_ne_zero, Nat.zero_ne_one, Nat.succ_ne_self, Nat.reduceAdd, Bool.false_eq_true, false_implies, implies_true, reduceCtorEq, crl]
    rfl
  · intro t ht
    unfold seI refB strB
    simp -implicitDefEqProofs only [go_sem]
    refine condK_bb (fun e6 => ?_) (fun e6 => ?_)
    · have c6 : t < d.pend.length := by simp only [decide_eq_true_eq] at e6; omega
      have hw := h5 (d.pend.getD t (0, [])) (by rw [List.getD_eq_getElem?_getD, List.getElem?_eq_getElem c6]; exact List.getElem_mem c6)
      have p1 := hrow t c6
      have p4 : crl d.safe d.pend (keepN ks) (t + 1) = (crl d.safe d.pend (keepN ks) t).set (d.pend.getD t (0, [])).1 ((d.pend.getD t (0, [])).2.take (keepN ks t) ++ ((crl d.safe d.pend (keepN ks) t).getD (d.pend.getD t (0, [])).1 []).drop (keepN ks t)) := rfl
      generalize d.pend.getD t (0, []) = w at hw p1 p4
      have p6 := hall t ht
      have p7 : (crl d.safe d.pend (keepN ks) t).length = d.seen.length := by rw [crl_len, h3]
      have p8 := strB_get (l := crl d.safe d.pend (keepN ks) t) (j := w.1) (by rw [p7]; exact hw.1)
      have p9 := getD_len p6 (j := w.1) (by rw [p7]; exact hw.1)
      have kl := keepN_le ks t
      have s1 : (tx w.2).size = 64 := by rw [tx_size', hw.2]
      have s2 : (tx ((crl d.safe d.pend (keepN ks) t).getD w.1 [])).size = 64 := by rw [tx_size', p9]
      have r7 : (tx w.2).extract 0 (keepN ks t) ++ (tx ((crl d.safe d.pend (keepN ks) t).getD w.1 [])).extract (keepN ks t) 64 = tx (w.2.take (keepN ks t) ++ ((crl d.safe d.pend (keepN ks) t).getD w.1 []).drop (keepN ks t)) := by
        rw [tx_ext, tx_ext, tx_app, List.take_of_length_le (l := (crl d.safe d.pend (keepN ks) t).getD w.1 []) (by omega)]; rfl
      have r8 : ((crl d.safe d.pend (keepN ks) t).map tx).set w.1 (tx (w.2.take (keepN ks t) ++ ((crl d.safe d.pend (keepN ks) t).getD w.1 []).drop (keepN ks t))) = (crl d.safe d.pend (keepN ks) (t + 1)).map tx := by
        rw [p4, List.map_set]
      by_cases hm0 : m = 0
      · have e7 : decide ((m : Int) > 0) = false := decide_eq_false (by omega)
        have k0 : keepN ks t = 0 := by unfold keepN; rw [if_pos (by omega)]
        rw [k0] at r7 r8
        simp only [List.take_zero, List.nil_append, List.drop_zero] at r7 r8
        simp -implicitDefEqProofs only [go_sem, p1, e7, qcell, p8, splice_zero, List.map_cons, List.map_nil, List.length_cons, List.length_nil, List.drop_succ_cons, List.drop_zero, List.cons_append, List.nil_append, s1, s2, r7, r8]
        refine ⟨by omega, by omega, by omega, by omega, by rw [List.length_map]; omega, by omega, by rw [ByteArray.size_extract, ByteArray.size_extract]; omega, by omega, by rw [List.length_map]; omega, kLoop_mk (t + 1) (by omega) (by omega) ?_⟩
        refine sub_mk [] rfl rfl rfl ?_
        simp only [tmSub, hpSub, objSub, eqTm, eqHp, rn, lk, SV.ren, SV.renC, SV.renB, SV.renA, ren_ints, ren_strs, ren_pl, ren_svs, SV.v.injEq, Value.int.injEq, Body.ints.injEq, SV.ptr.injEq, SV.sl.injEq, Value.string.injEq, Value.bool.injEq, List.map_cons, List.map_nil, forall_const, Nat.reduceLT, Nat.lt_add_one, imp_self, true_and, and_true, and_self, ob_some, get_mk, lk_cons, ↓reduceIte, Nat.reduceEqDiff, ne_eq, not_true_eq_false, not_false_eq_true, Nat.one_ne_zero, Nat.zero_ne_one, Nat.succ_ne_self, Nat.reduceAdd, Bool.false_eq_true, false_implies, implies_true, reduceCtorEq]
        rw [wrap_i64 (by omega) (by omega)]
        exact Int.natCast_add t 1
      · have e7 : decide ((m : Int) > 0) = true := decide_eq_true (by omega)
        have hmod : (t : Int).tmod (m : Int) = ((t % m : Nat) : Int) := by rw [Int.tmod_eq_emod_of_nonneg (by omega)]; exact (Int.natCast_emod t m).symm
        have hlt : t % m < m := Nat.mod_lt _ (by omega)
        have hg := hkg (t % m) hlt
        have hcl : min (max (ks.getD (t % m) 0) 0) 64 = ((keepN ks t : Nat) : Int) := by
          unfold keepN clampN; rw [if_neg (by omega), hkl]; omega
        simp -implicitDefEqProofs only [go_sem, p1, e7, hmod, hg, hcl, qcell, p8, splice_zero, List.map_cons, List.map_nil, List.length_cons, List.length_nil, List.drop_succ_cons, List.drop_zero, List.cons_append, List.nil_append, s1, s2, r7, r8]
        refine ⟨by omega, by omega, by omega, by omega, by omega, by omega, by omega, by rw [List.length_map]; omega, by omega, by rw [ByteArray.size_extract, ByteArray.size_extract]; omega, by omega, by rw [List.length_map]; omega, kLoop_mk (t + 1) (by omega) (by omega) ?_⟩
        refine sub_mk [] rfl rfl rfl ?_
        simp only [tmSub, hpSub, objSub, eqTm, eqHp, rn, lk, SV.ren, SV.renC, SV.renB, SV.renA, ren_ints, ren_strs, ren_pl, ren_svs, SV.v.injEq, Value.int.injEq, Body.ints.injEq, SV.ptr.injEq, SV.sl.injEq, Value.string.injEq, Value.bool.injEq, List.map_cons, List.map_nil, forall_const, Nat.reduceLT, Nat.lt_add_one, imp_self, true_and, and_true, and_self, ob_some, get_mk, lk_cons, ↓reduceIte, Nat.reduceEqDiff, ne_eq, not_true_eq_false, not_false_eq_true, Nat.one_ne_zero, Nat.zero_ne_one, Nat.succ_ne_self, Nat.reduceAdd, Bool.false_eq_true, false_implies, implies_true, reduceCtorEq]
        rw [wrap_i64 (by omega) (by omega)]
        exact Int.natCast_add t 1
    · have c6 : t = d.pend.length := by simp only [decide_eq_false_iff_not] at e6; omega
      subst c6
      simp -implicitDefEqProofs only [go_sem]
      refine sub_mk [] rfl rfl rfl ?_
      simp only [tmSub, hpSub, objSub, eqTm, eqHp, rn, lk, SV.ren, SV.renC, SV.renB, SV.renA, ren_ints, ren_strs, ren_pl, ren_svs, SV.v.injEq, Value.int.injEq, Body.ints.injEq, SV.ptr.injEq, SV.sl.injEq, Value.string.injEq, Value.bool.injEq, List.map_cons, List.map_nil, forall_const, Nat.reduceLT, Nat.lt_add_one, imp_self, true_and, and_true, and_self, ob_some, get_mk, lk_cons, ↓reduceIte, Nat.reduceEqDiff, ne_eq, not_true_eq_false, not_false_eq_true, Nat.one_ne_zero, Nat.zero_ne_one, Nat.succ_ne_self, Nat.reduceAdd, Bool.false_eq_true, false_implies, implies_true, reduceCtorEq]
variable {H : Hp} {n : Nat} {x : Nat → Option SO} {d d' : Fd} {i a b c : Nat} {u1 u2 u3 : Bool}
structure RefAt (H : Hp) (d : Fd) (i a b : Nat) (u1 u2 u3 : Bool) : Prop where
  gi : H.get i = some ⟨u1, refB d a b⟩
  ga : H.get a = some ⟨u2, strB d.safe⟩
  gb : H.get b = some ⟨u3, .pl (qrow d.pend)⟩
  ne : (0 < i ∧ 0 < a ∧ 0 < b) ∧ (i < 1000 ∧ a < 1000 ∧ b < 1000) ∧ i ≠ a ∧ i ≠ b ∧ a ≠ b
theorem seS9 {r o m : Nat} {row ks : List Int} (h : RefAt H d i a b u1 u2 u3) (hd : d.ok) (hom : o + m ≤ row.length) (hr : rowAt H r (.ints .i64 []) = some (.ints .i64 row)) (hne : i ≠ r ∧ a ≠ r ∧ b ≠ r) (hn : n < 1000) (hk : (row.drop o).take m = ks) :
    SpecAt Tryz.prog nrFsettled [.ptr i 0, .sl r o m 1] H n (.sl n 0 d.seen.length 1) ⟨(n, some ⟨true, strB (crl d.safe d.pend (keepN ks) d.pend.length)⟩) :: H.l, H.x⟩ (n + 1) := by
  subst hk
  obtain ⟨hi, ha, hb, ⟨p1, p2, p3⟩, ⟨q1, q2, q3⟩, n1, n2, n3⟩ := h
  have := lift (n := n) (ok3.spec trFsettled (wF39 (x := H.x) hd hom)) [(1, i), (2, a), (3, b), (4, r)] rfl rfl rfl (by omega) rfl rfl
    ⟨sub_ro rfl p1 hi rfl, sub_ro rfl p2 ha rfl, sub_ro rfl p3 hb rfl, rowAt_sub hr rfl ⟨rfl, fun _ h => (by cases h)⟩ rfl, trivial⟩
    (by simp [apartB, apart1, rn, lk, n1, n2, n3, hne.1, hne.2.1, hne.2.2, Ne.symm n1, Ne.symm n2, Ne.symm n3]) (by simp [wrNZ, rn, lk]; try omega) (by omega)
  exact this
theorem crl_setl {S : List (List Int)} {ws : List (Nat × List Int)} (hS : ∀ s ∈ S, s.length = 64) (hw : ∀ w ∈ ws, w.1 < S.length ∧ w.2.length = 64) : ∀ t, t ≤ ws.length → crl S ws (keepN [64]) t = setl S (ws.take t)
  | 0, _ => rfl
  | t + 1, ht => by
    have c6 : t < ws.length := by omega
    have ih := crl_setl hS hw t (by omega)
    have hall := crl_all (kf := keepN [64]) hS hw t (by omega)
    have hk : keepN [64] t = 64 := by unfold keepN; rw [if_neg (by simp)]; simp only [List.length_cons, List.length_nil, Nat.zero_add, Nat.mod_one]; rfl
    have hw' := hw (ws.getD t (0, [])) (by rw [List.getD_eq_getElem?_getD, List.getElem?_eq_getElem c6]; exact List.getElem_mem c6)
    have hg := getD_len hall (j := (ws.getD t (0, [])).1) (by rw [crl_len]; exact hw'.1)
    simp only [crl]
    rw [setl_succ c6, ← ih, hk, List.take_of_length_le (by omega), List.drop_of_length_le (by omega), List.append_nil]
theorem crl_all64 (hd : d.ok) : crl d.safe d.pend (keepN [64]) d.pend.length = setl d.safe d.pend := by
  obtain ⟨h1, h2, h3, h4, h5, h6, h7, h8, h9, h10⟩ := hd
  rw [crl_setl h2 (fun w hw => ⟨by rw [h3]; exact (h5 w hw).1, (h5 w hw).2⟩) _ (Nat.le_refl _), List.take_length]
theorem stepD_safe : (stepD d).safe = d.safe ∧ (stepD d).pend = d.pend ∧ (stepD d).seen = d.seen := by unfold stepD; split <;> exact ⟨rfl, rfl, rfl⟩
def rp3s (d : Fd) (x : Nat → Option SO) : Hp := ⟨[(1, some ⟨false, refB d 2 3⟩), (2, some ⟨false, strB d.safe⟩), (3, some ⟨false, .pl (qrow d.pend)⟩)], x⟩
theorem setl_none {S : List (List Int)} {j : Nat} : ∀ {ws : List (Nat × List Int)}, (∀ w ∈ ws, w.1 ≠ j) → (setl S ws).getD j [] = S.getD j []
  | ws, h => by
    induction ws generalizing S with
    | nil => rfl
    | cons w ws ih =>
      show (setl (S.set w.1 w.2) ws).getD j [] = _
      rw [ih (fun w' hw' => h w' (List.mem_cons_of_mem _ hw')), List.getD_eq_getElem?_getD, List.getElem?_set_ne (h w (List.mem_cons_self ..)), List.getD_eq_getElem?_getD]
theorem setl_split {S : List (List Int)} {ws vs : List (Nat × List Int)} : setl S (ws ++ vs) = setl (setl S ws) vs := by simp [setl, List.foldl_append]
theorem setl_hit {S : List (List Int)} {j t : Nat} {ws : List (Nat × List Int)} (ht : t < ws.length) (hj : j < S.length) (h1 : (ws.getD t (0, [])).1 = j) (h : ∀ w ∈ ws.drop (t + 1), w.1 ≠ j) : (setl S ws).getD j [] = (ws.getD t (0, [])).2 := by
  have e : ws = ws.take (t + 1) ++ ws.drop (t + 1) := (List.take_append_drop _ _).symm
  rw [e, setl_split, setl_none h, setl_succ ht, h1, List.getD_eq_getElem?_getD, List.getElem?_set_self (by rw [setl_len]; exact hj)]
  rw [← e]; rfl
def nwI (k : Nat) (x : Nat → Option SO) (t : Nat) : St := ⟨[(0, .v (.int .i64 k)), (4, .ptr 1 0), (5, .v (.int .i64 t))],
  ⟨[(1, some ⟨true, .sv [.sl 2 0 k 1, .sl 0 0 0 2, .v (.int .i64 0), .v (.int .i64 0), .v (.bool false)]⟩), (2, some ⟨true, .strs (List.replicate t (tx (zi 64)) ++ List.replicate (k - t) ⟨#[]⟩)⟩)], x⟩, 3⟩
theorem wF31 {k : Nat} (h0 : 1 ≤ k) (hk : k ≤ 4096) :
    fnVC C3 mrFNew [.v (.int .i64 k)] ⟨[], x⟩ 1 fun v H' n' => Sub 1 ⟨[(0, .tup [.ptr 1 0, .v (.int .i64 0)])], ⟨[(1, some ⟨true, refB (newD k) 2 3⟩), (2, some ⟨true, strB (newD k).safe⟩), (3, some ⟨true, .pl (qrow (newD k).pend)⟩)], x⟩, 4⟩ ⟨[(0, v)], H', n'⟩ := by
  have e1 : decide ((k : Int) < 1) = false := decide_eq_false (by omega)
  have e2 : decide ((k : Int) > 4096) = false := decide_eq_false (by omega)
  unfold mrFNew
  simp -implicitDefEqProofs only [↓fnVC, initTm]
  simp -implicitDefEqProofs only [go_sem, e1, e2]
  refine ⟨⟨by omega, by omega, by omega, by omega⟩, ?_⟩
  refine loop_fam (fun t : Nat => t ≤ k) (nwI k x) (fun t => k - t) 0 (by omega) ?_ ?_
  · unfold nwI
    refine sub_mk [(1, 2), (2, 1)] rfl rfl rfl ?_
    simp only [tmSub, hpSub, objSub, eqTm, eqHp, rn, lk, SV.ren, SV.renC, SV.renB, SV.renA, ren_ints, ren_strs, ren_pl, ren_svs, SV.v.injEq, Value.int.injEq, Body.ints.injEq, SV.ptr.injEq, SV.sl.injEq, Value.string.injEq, Value.bool.injEq, List.map_cons, List.map_nil, forall_const, Nat.reduceLT, Nat.lt_add_one, imp_self, true_and, and_true, and_self, ob_some, get_mk, lk_cons, ↓reduceIte, Nat.reduceEqDiff, ne_eq, not_true_eq_false, not_false_eq_true, Nat.one_ne_zero, Nat.zero_ne_one, Nat.succ_ne_self, Nat.reduceAdd, Bool.false_eq_true, false_implies, implies_true, reduceCtorEq, splice_zero, List.drop_succ_cons, List.drop_zero, List.cons_append, List.nil_append, List.length_cons, List.length_nil, List.replicate_zero, Nat.sub_zero]
    rfl
  · intro t ht
    unfold nwI
    simp -implicitDefEqProofs only [go_sem]
    refine condK_bb (fun e1 => ?_) (fun e1 => ?_)
    · have c1 : t < k := by simp only [decide_eq_true_eq] at e1; omega
      have r1 : List.take 64 (List.replicate 64 (0 : Int)) = zi 64 := rfl
      have r2 : (List.replicate t (tx (zi 64)) ++ List.replicate (k - t) (ByteArray.mk #[])).set t (tx (zi 64)) = List.replicate (t + 1) (tx (zi 64)) ++ List.replicate (k - (t + 1)) (ByteArray.mk #[]) := by
        rw [List.set_append_right _ _ (by simp), List.length_replicate, Nat.sub_self, show k - t = (k - (t + 1)) + 1 by omega, List.replicate_succ, List.set_cons_zero, List.replicate_succ', List.append_assoc]; rfl
      simp -implicitDefEqProofs only [go_sem, r1, r2]
      simp only [List.length_append, List.length_replicate]
      refine ⟨by omega, by omega, by omega, by omega, kLoop_mk (t + 1) (by omega) (by omega) ?_⟩
      rw [wrap_i64 (n := (t : Int) + 1) (by omega) (by omega)]
      refine sub_mk [] rfl rfl rfl ?_
      simp only [tmSub, hpSub, objSub, eqTm, eqHp, rn, lk, SV.ren, SV.renC, SV.renB, SV.renA, ren_ints, ren_strs, ren_pl, ren_svs, SV.v.injEq, Value.int.injEq, Body.ints.injEq, SV.ptr.injEq, SV.sl.injEq, Value.string.injEq, Value.bool.injEq, List.map_cons, List.map_nil, forall_const, Nat.reduceLT, Nat.lt_add_one, imp_self, true_and, and_true, and_self, ob_some, get_mk, lk_cons, ↓reduceIte, Nat.reduceEqDiff, ne_eq, not_true_eq_false, not_false_eq_true, Nat.one_ne_zero, Nat.zero_ne_one, Nat.succ_ne_self, Nat.reduceAdd, Bool.false_eq_true, false_implies, implies_true, reduceCtorEq]
      exact (Int.natCast_add t 1).symm
    · have c1 : t = k := by simp only [decide_eq_false_iff_not] at e1; omega
      subst c1
      simp -implicitDefEqProofs only [go_sem]
      refine sub_mk [(3, 0)] rfl rfl rfl ?_
      simp only [tmSub, hpSub, objSub, eqTm, eqHp, rn, lk, SV.ren, SV.renC, SV.renB, SV.renA, ren_ints, ren_strs, ren_pl, ren_svs, SV.v.injEq, Value.int.injEq, Body.ints.injEq, SV.ptr.injEq, SV.sl.injEq, Value.string.injEq, Value.bool.injEq, List.map_cons, List.map_nil, forall_const, Nat.reduceLT, Nat.lt_add_one, imp_self, true_and, and_true, and_self, ob_some, get_mk, lk_cons, ↓reduceIte, Nat.reduceEqDiff, ne_eq, not_true_eq_false, not_false_eq_true, Nat.one_ne_zero, Nat.zero_ne_one, Nat.succ_ne_self, Nat.reduceAdd, Bool.false_eq_true, false_implies, implies_true, reduceCtorEq]
      have r1 : strB (newD t).safe = .strs (List.replicate t (tx (zi 64)) ++ List.replicate (t - t) (ByteArray.mk #[])) := by
        simp [strB, newD]
      rw [r1]
      refine ⟨?_, rfl, rfl⟩
      have r3 : (newD t).seen.length = t := by simp [newD]
      unfold refB
      rw [r3]; rfl
variable {H : Hp} {n : Nat} {x : Nat → Option SO} {d d' : Fd} {i a b c : Nat} {u1 u2 u3 : Bool}
def refL (d : Fd) (i a b : Nat) (l : List (Nat × Option SO)) : List (Nat × Option SO) := (i, some ⟨true, refB d a b⟩) :: (a, some ⟨true, strB d.safe⟩) :: (b, some ⟨true, .pl (qrow d.pend)⟩) :: l
theorem rnwG {k : Nat} (h0 : 1 ≤ k) (hk : k ≤ 4096) (hn : n + 3 ≤ 1000) :
    SpecAt Tryz.prog nrFNew [.v (.int .i64 k)] H n (.tup [.ptr n 0, .v (.int .i64 0)]) ⟨refL (newD k) n (n + 1) (n + 1 + 1) H.l, H.x⟩ (n + 3) := by
  have := lift (n := n) (ok3.spec trFNew (wF31 (x := H.x) h0 hk)) [] rfl rfl rfl (by omega) rfl rfl trivial rfl rfl (by omega)
  exact this
variable {H : Hp} {n : Nat} {x : Nat → Option SO} {d d' : Fd} {i a b c : Nat} {u1 u2 u3 : Bool}
structure Pl (d : Fd) (k t : Nat) : Prop where
  ok : d.ok
  len : d.seen.length = k
  sn : Sn d
  st : d.st ≤ t
  few : d.pend.length ≤ t
theorem Pl.new {k : Nat} (hk : k ≤ 4096) : Pl (newD k) k 0 := ⟨newD_ok hk, by simp [newD], Sn.new, by simp [newD], by simp [newD]⟩
theorem Pl.wr {k t j : Nat} {s : ByteArray} (h : Pl d k t) (hj : j < k) (hs : s.size ≤ 64) (hf : d.fa ≠ 1) (ht : t < 1000000) : Pl (wrD d j s) k (t + 1) :=
  ⟨wrD_ok h.ok (by rw [h.len]; exact hj) hs hf (by have := h.st; omega) (by have := h.few; omega), by rw [wrD_len, h.len], h.sn.wr, by rw [wrD_st hf]; have := h.st; omega, by rw [wrD_pend]; have := h.few; simp; omega⟩
theorem Pl.ba {k t : Nat} (h : Pl d k t) (hf : d.fa ≠ 1) (ht : t < 1000000) : Pl (baD d) k (t + 1) :=
  ⟨baD_ok h.ok hf (by have := h.st; omega), by rw [baD_seen, h.len], h.sn.ba, by rw [baD_st hf]; have := h.st; omega, by simp [baD]⟩
theorem Pl.step {k t : Nat} (h : Pl d k t) (hf : d.fa = 1) : Pl (stepD d) k (t + 1) := by
  obtain ⟨⟨h1, h2, h3, h4, h5, h6, h7, h8, h9, h10⟩, hl, hs, ht, hw⟩ := h
  unfold stepD
  rw [if_pos hf]
  exact ⟨⟨h1, h2, h3, h4, h5, h6, h7, h8, Int.le_refl _, by simp only; omega⟩, hl, hs, by simp only; omega, by simp only; omega⟩
theorem Pl.more {k t : Nat} (h : Pl d k t) : Pl d k (t + 1) := ⟨h.ok, h.len, h.sn, by have := h.st; omega, by have := h.few; omega⟩
theorem wrNo_some {e k : Int} {s : ByteArray} (h : wrNo d k s = some (e, d')) : d' = d ∨ d' = stepD d ∧ d.fa = 1 := by
  unfold wrNo at h
  split at h
  · cases h; exact .inl rfl
  split at h
  · cases h; exact .inl rfl
  split at h
  · cases h; exact .inl rfl
  split at h
  · rename_i c; cases h; exact .inr ⟨rfl, c⟩
  · cases h
theorem wrNo_none {k : Int} {s : ByteArray} (h : wrNo d k s = none) : d.off = false ∧ (∃ j : Nat, k = j ∧ j < d.seen.length) ∧ s.size ≤ 64 ∧ d.fa ≠ 1 := by
  unfold wrNo at h
  split at h
  · cases h
  rename_i c1
  split at h
  · cases h
  rename_i c2
  split at h
  · cases h
  rename_i c3
  split at h
  · cases h
  rename_i c4
  exact ⟨by simpa using c1, ⟨k.toNat, by omega, by omega⟩, by omega, c4⟩
theorem Pl.no {e k : Int} {s : ByteArray} {m t : Nat} (hP : Pl d m t) (h : wrNo d k s = some (e, d')) : Pl d' m (t + 1) ∧ d'.seen = d.seen ∧ d'.safe = d.safe ∧ d'.pend = d.pend := by
  rcases wrNo_some h with rfl | ⟨rfl, hf⟩
  · exact ⟨hP.more, rfl, rfl, rfl⟩
  · exact ⟨hP.step hf, stepD_safe.2.2, stepD_safe.1, stepD_safe.2.1⟩
def baNo (d : Fd) : Option (Int × Fd) := if d.off then some ((7 : Int), d) else if d.fa = 1 then some (7, stepD d) else none
theorem Pl.bno {e : Int} {m t : Nat} (hP : Pl d m t) (h : baNo d = some (e, d')) : Pl d' m (t + 1) ∧ d'.seen = d.seen ∧ d'.safe = d.safe ∧ d'.pend = d.pend := by
  unfold baNo at h
  split at h
  · cases h; exact ⟨hP.more, rfl, rfl, rfl⟩
  split at h
  · rename_i c; cases h; exact ⟨hP.step c, stepD_safe.2.2, stepD_safe.1, stepD_safe.2.1⟩
  · cases h
theorem baNo_none (h : baNo d = none) : d.off = false ∧ d.fa ≠ 1 := by
  unfold baNo at h
  split at h
  · cases h
  rename_i c1
  split at h
  · cases h
  rename_i c2
  exact ⟨by simpa using c1, c2⟩
end
section
/- Slots: a device's writes and barriers, whatever comes of them. -/
set_option linter.unusedVariables false
set_option linter.unusedSimpArgs false
set_option maxRecDepth 100000
open Go.Proofs
variable {H : Hp} {n : Nat} {x : Nat → Option SO} {d d' : Fd} {i a b c : Nat} {u1 u2 u3 : Bool}
theorem SpecAt.sub {P : Program} {f : Nat} {args : List SV} {v v2 : SV} {H' H2 : Hp} {n' n2 : Nat} (h : SpecAt P f args H n v H' n') (hs : Sub n ⟨[(0, v2)], H2, n2⟩ ⟨[(0, v)], H', n'⟩) : SpecAt P f args H n v2 H2 n2 := by
  intro F w0 w ρ xs hH hz hl
  refine (h F w0 w ρ xs hH hz hl).mono ?_
  rintro e w' ⟨x, ρ1, rfl, hr, hlt, hH1, hx, hn⟩
  obtain ⟨ρ', hR⟩ := hs.sound (N := 1) (ρ0 := ρ) (a := ⟨#[x], []⟩) hH.pos ⟨⟨F, w0, hH1, Sup.refl hH1, trivial⟩, ⟨⟨fun t u hu => by
    simp only [lk] at hu
    split at hu
    · rename_i e; subst e; cases hu; exact ⟨⟨x, rfl, hr⟩, hlt⟩
    · cases hu⟩, rfl, rfl⟩, hx, hn⟩
  obtain ⟨⟨y, hy, hry⟩, hly⟩ := hR.a.t.get 0 v2 rfl
  simp at hy; subst hy
  exact ⟨x, ρ', rfl, hry, hly, hR.h, hR.e, hR.b⟩
def wrT (d : Fd) (k : Int) (s : ByteArray) : Int × Fd := match wrNo d k s with
  | some p => p
  | none => (0, wrD d k.toNat s)
def baT (d : Fd) : Int × Fd := match baNo d with
  | some p => p
  | none => (0, baD d)
theorem wrT_pl {k : Int} {s : ByteArray} {m t : Nat} (hP : Pl d m t) (ht : t < 1000000) : Pl (wrT d k s).2 m (t + 1) := by
  unfold wrT
  cases hw : wrNo d k s with
  | some p => exact (hP.no hw).1
  | none =>
    obtain ⟨h1, ⟨j, rfl, hj⟩, h3, h4⟩ := wrNo_none hw
    exact hP.wr (by rw [← hP.len]; exact hj) h3 h4 ht
theorem baT_pl {m t : Nat} (hP : Pl d m t) (ht : t < 1000000) : Pl (baT d).2 m (t + 1) := by
  unfold baT
  cases hw : baNo d with
  | some p => exact (hP.bno hw).1
  | none => exact hP.ba (baNo_none hw).2 ht
theorem devC : DevAt (hp3 d x) d 1 2 3 4 := ⟨rfl, rfl, rfl, rfl, by decide⟩
def devK (d : Fd) : List (Nat × Option SO) := [(1, some ⟨true, devB d 5 6 7⟩), (2, none), (3, none), (4, none), (5, some ⟨true, secB d.seen⟩), (6, some ⟨true, secB d.safe⟩), (7, some ⟨true, .pl (prow d.pend)⟩)]
theorem wrTc {k : Int} {s : ByteArray} {m t : Nat} (hP : Pl d m t) (ht : t < 1000000) :
    SpecAt Tryz.prog nFWrite [.ptr 1 0, .v (.int .i64 k), .v (.string s)] (hp3 d x) 5 (.v (.int .i64 (wrT d k s).1)) ⟨devK (wrT d k s).2, x⟩ 8 := by
  unfold wrT
  cases hw : wrNo d k s with
  | some p =>
    obtain ⟨e, d'⟩ := p
    obtain ⟨hP', hr⟩ := hP.no hw
    refine (wrF devC hP.ok hw hr).sub ?_
    refine sub_mk [(5, 2), (6, 3), (7, 4)] rfl rfl rfl ?_
    obtain ⟨h1, h2, h3⟩ := hr
    simp only [devK, devB, secB, hp3, tmSub, hpSub, objSub, eqTm, eqHp, rn, lk, SV.ren, SV.renC, SV.renB, SV.renA, ren_ints, ren_strs, ren_pl, ren_svs, List.map_cons, List.map_nil, forall_const, Nat.reduceLT, true_and, and_true, ob_some, get_mk, lk_cons, ↓reduceIte, Nat.reduceEqDiff, Nat.reduceAdd, implies_true, reduceCtorEq, h1, h2, h3]
  | none =>
    obtain ⟨h1, ⟨j, rfl, hj⟩, h3, h4⟩ := wrNo_none hw
    refine (wrW devC hP.ok hj h3 h1 h4 (by decide) rfl).sub ?_
    refine sub_mk [(5, 2), (6, 3), (7, 5)] rfl rfl rfl ?_
    simp only [devK, devB, secB, hp3, tmSub, hpSub, objSub, eqTm, eqHp, rn, lk, SV.ren, SV.renC, SV.renB, SV.renA, ren_ints, ren_strs, ren_pl, ren_svs, List.map_cons, List.map_nil, forall_const, Nat.reduceLT, true_and, and_true, ob_some, get_mk, lk_cons, ↓reduceIte, Nat.reduceEqDiff, Nat.reduceAdd, implies_true, reduceCtorEq, Int.toNat_natCast]
theorem wrTS {k : Int} {s : ByteArray} {m t : Nat} (h : DevAt H d i a b c) (hP : Pl d m t) (ht : t < 1000000) (hn : n + 3 ≤ 1000) {e : Int} (hD : wrT d k s = (e, d')) :
    SpecAt Tryz.prog nFWrite [.ptr i 0, .v (.int .i64 k), .v (.string s)] H n (.v (.int .i64 e))
      ⟨(i, some ⟨true, devB d' n (n + 1) (n + 1 + 1)⟩) :: (a, none) :: (b, none) :: (c, none) :: (n, some ⟨true, secB d'.seen⟩) :: (n + 1, some ⟨true, secB d'.safe⟩) :: (n + 1 + 1, some ⟨true, .pl (prow d'.pend)⟩) :: H.l, H.x⟩ (n + 3) := by
  obtain ⟨hi, ha, hb, hc, ⟨p1, p2, p3, p4⟩, ⟨q1, q2, q3, q4⟩, n1, n2, n3, n4, n5, n6⟩ := h
  have e1 : (wrT d k s).1 = e := by rw [hD]
  have e2 : (wrT d k s).2 = d' := by rw [hD]
  subst e1; subst e2
  have := lift (n := n) (wrTc (x := H.x) (k := k) (s := s) hP ht) [(1, i), (2, a), (3, b), (4, c)] rfl rfl rfl (by omega) rfl rfl
    ⟨sub_wr rfl p1 q1 hi rfl, sub_wr rfl p2 q2 ha rfl, sub_wr rfl p3 q3 hb rfl, sub_wr rfl p4 q4 hc rfl, trivial⟩
    (by simp [devK, devL, apartB, apart1, rn, lk, n1, n2, n3, n4, n5, n6, Ne.symm n1, Ne.symm n2, Ne.symm n3, Ne.symm n4, Ne.symm n5, Ne.symm n6]) (by simp [devK, devL, wrNZ, rn, lk]; omega) (by omega)
  exact this
theorem baTc {m t : Nat} (hP : Pl d m t) (ht : t < 1000000) :
    SpecAt Tryz.prog nFBarrier [.ptr 1 0] (hp3 d x) 5 (.v (.int .i64 (baT d).1)) ⟨devK (baT d).2, x⟩ 8 := by
  unfold baT
  cases hw : baNo d with
  | some p =>
    obtain ⟨e, d'⟩ := p
    obtain ⟨hP', hr⟩ := hP.bno hw
    refine (baF devC hw).sub ?_
    refine sub_mk [(5, 2), (6, 3), (7, 4)] rfl rfl rfl ?_
    obtain ⟨h1, h2, h3⟩ := hr
    simp only [devK, devB, secB, hp3, tmSub, hpSub, objSub, eqTm, eqHp, rn, lk, SV.ren, SV.renC, SV.renB, SV.renA, ren_ints, ren_strs, ren_pl, ren_svs, List.map_cons, List.map_nil, forall_const, Nat.reduceLT, true_and, and_true, ob_some, get_mk, lk_cons, ↓reduceIte, Nat.reduceEqDiff, Nat.reduceAdd, implies_true, reduceCtorEq, h1, h2, h3]
  | none =>
    obtain ⟨h1, h4⟩ := baNo_none hw
    refine (baW devC hP.ok h1 h4 (by decide) rfl).sub ?_
    refine sub_mk [(5, 2), (6, 3), (7, 5)] rfl rfl rfl ?_
    simp only [devK, devB, secB, hp3, tmSub, hpSub, objSub, eqTm, eqHp, rn, lk, SV.ren, SV.renC, SV.renB, SV.renA, ren_ints, ren_strs, ren_pl, ren_svs, List.map_cons, List.map_nil, forall_const, Nat.reduceLT, true_and, and_true, ob_some, get_mk, lk_cons, ↓reduceIte, Nat.reduceEqDiff, Nat.reduceAdd, implies_true, reduceCtorEq]
theorem baTS {m t : Nat} (h : DevAt H d i a b c) (hP : Pl d m t) (ht : t < 1000000) (hn : n + 3 ≤ 1000) {e : Int} (hD : baT d = (e, d')) :
    SpecAt Tryz.prog nFBarrier [.ptr i 0] H n (.v (.int .i64 e))
      ⟨(i, some ⟨true, devB d' n (n + 1) (n + 1 + 1)⟩) :: (a, none) :: (b, none) :: (c, none) :: (n, some ⟨true, secB d'.seen⟩) :: (n + 1, some ⟨true, secB d'.safe⟩) :: (n + 1 + 1, some ⟨true, .pl (prow d'.pend)⟩) :: H.l, H.x⟩ (n + 3) := by
  obtain ⟨hi, ha, hb, hc, ⟨p1, p2, p3, p4⟩, ⟨q1, q2, q3, q4⟩, n1, n2, n3, n4, n5, n6⟩ := h
  have e1 : (baT d).1 = e := by rw [hD]
  have e2 : (baT d).2 = d' := by rw [hD]
  subst e1; subst e2
  have := lift (n := n) (baTc (x := H.x) hP ht) [(1, i), (2, a), (3, b), (4, c)] rfl rfl rfl (by omega) rfl rfl
    ⟨sub_wr rfl p1 q1 hi rfl, sub_wr rfl p2 q2 ha rfl, sub_wr rfl p3 q3 hb rfl, sub_wr rfl p4 q4 hc rfl, trivial⟩
    (by simp [devK, devL, apartB, apart1, rn, lk, n1, n2, n3, n4, n5, n6, Ne.symm n1, Ne.symm n2, Ne.symm n3, Ne.symm n4, Ne.symm n5, Ne.symm n6]) (by simp [devK, devL, wrNZ, rn, lk]; omega) (by omega)
  exact this
theorem Pl.mono {k t u : Nat} (h : Pl d k t) (hu : t ≤ u) : Pl d k u := ⟨h.ok, h.len, h.sn, by have := h.st; omega, by have := h.few; omega⟩
end
end Go.Sx